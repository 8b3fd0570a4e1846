/-
  Generic: what is appended to an object that is a row: in its room, or with all of it in a new block.
-/
import Derived.Test.YtommkfooolabhaaGreatDoorPm12r
namespace Go.Pm
open Go Go.RowKit
set_option linter.unusedVariables false
set_option linter.unusedSimpArgs false
structure Grew (w w' : World) (g g1 sz n cap : Nat) (e : TypeId) (vals vals' : Array Value) (fz' : Nat × Nat) (news : List Value) : Prop where
  at_ : w'.heap[g1]? = some (.cells vals' e fz')
  fz : ∀ i, i < vals'.size → ¬ inFz fz' i
  room : cap * sz = vals'.size
  full : n * sz + news.length ≤ vals'.size
  olds : ∀ j, j < n * sz → vals'[j]? = vals[j]?
  new : ∀ j, j < news.length → vals'[n * sz + j]? = news[j]?
  blk : ∀ b, b < w.heap.size → b ≠ g1 → w'.heap[b]? = w.heap[b]?
  which : g1 = g ∨ g1 = w.heap.size
  size : w.heap.size ≤ w'.heap.size
  lt : g1 < w'.heap.size
  os : w'.os = w.os
  tape : w'.tape = w.tape
  output : w'.output = w.output
  gr : ∀ b, Grows w w' b
theorem run_grow {P : Program} (w : World) (t u ty e : TypeId) (d : TypeDesc) (i : TypeInfo) (z : Value) (ht : P.underlying t = some (.slice e)) (hu : P.underlying u = some d) (hd : ∀ k, d ≠ .int k) (hi : P.info? e = some i) (hz : i.zero = some z) (hzs : z.cells.size = i.size)
    (hsize : ∀ w, (sizeOf e).run P w = .ok i.size w) (g n cap m : Nat) (x : Value) (hl : (Builtin.lenOf x).run P w = .ok m w) (news : List Value) (hnl : news.length = m * i.size)
    (hf1 : ∀ w2 : World, (∀ b, b < w.heap.size → w2.heap[b]? = w.heap[b]?) → (Builtin.firstCells i.size m x).run P w2 = .ok news.toArray w2) (hone : ∀ u, u ∈ news → u.oneCell' = true)
    {vals : Array Value} {fz : Nat × Nat} (hb : w.heap[g]? = some (.cells vals e fz)) (hfz : ∀ i, i < vals.size → ¬ inFz fz i) (hol : n * i.size ≤ vals.size) (holdone : ∀ j u, j < n * i.size → vals[j]? = some u → u.oneCell' = true)
    (hroom : cap * i.size = vals.size) (hnc : n ≤ cap) (hcm : cap ≤ maxLen) (h63 : n + m ≤ maxLen) (hby : (n + m) * i.bytes ≤ 140737488355328) :
    ∃ g1 cap' w' vals' fz', (Builtin.append_ #[t, u] ty #[.slice (some ⟨g, 0, none⟩) n cap, x]).run P w = .ok (.slice (some ⟨g1, 0, none⟩) (n + m) cap') w' ∧ n + m ≤ cap' ∧ cap' ≤ maxLen ∧ Grew w w' g g1 i.size n cap' e vals vals' fz' news := by
  have hglt : g < w.heap.size := (Array.getElem?_eq_some_iff.1 hb).1
  by_cases hr : n + m ≤ cap
  · have hmul : (n + m) * i.size ≤ cap * i.size := Nat.mul_le_mul_right _ hr
    rw [Nat.add_mul] at hmul
    obtain ⟨w', hst, hwr⟩ := run_stores (P := P) g (0 + n * i.size) news 0 w vals e fz hb (fun x hx1 hx2 => by
      rw [hnl] at hx2
      exact ⟨by omega, hfz x (by omega)⟩) hone
    simp only [Nat.add_zero, Nat.zero_add] at hwr
    have hrun := run_append_in (P := P) w t u ty e d i.size ht hu hd hsize (some ⟨g, 0, none⟩) n cap m x hl news (hf1 w fun _ _ => rfl) hr w' (by simp only [add_plain]; exact hst)
    obtain ⟨vals', v1, v2, v3⟩ := hwr.new _ _ _ hb
    refine ⟨g, cap, w', vals', fz, hrun, hr, hcm, v1, fun i hi => hfz i (by omega), by omega, by omega, fun j hj => ?_, fun j hj => ?_, fun b _ hbg => hwr.old b hbg, .inl rfl, by rw [hwr.size]; exact Nat.le_refl _, by rw [hwr.size]; exact hglt, hwr.os, hwr.tape, hwr.output, grows_one (fun b hbg => hwr.old b hbg) hb v1 v2⟩
    · rw [v3, if_neg (by omega)]
    · rw [v3, if_pos (by omega)]; congr 1; omega
  · have hrun := run_append_more (P := P) w t u ty e d i z ht hu hd hi hz (some ⟨g, 0, none⟩) n cap m x hl (vals.toList.take (n * i.size)) news
      (run_firstCells_some w.drew i.size n _ n cap _ (by simp; omega) fun j u hj => by
        rw [add_plain]
        have hj' : j < n * i.size := by have := (List.getElem?_eq_some_iff.1 hj).1; simp at this; omega
        rw [List.getElem?_take, if_pos hj'] at hj
        have hv : vals[j]? = some u := by simpa using hj
        have h1 : w.drew.heap[g]? = some (.cells vals e fz) := hb
        rw [Nat.zero_add, cell_at h1, hv])
      (hf1 w.drew fun _ _ => rfl) (by omega) h63 hby
    have hge := grownCap_ge w (n + m) cap e
    have hle := grownCap_le_maxLen w (n + m) cap e (by omega)
    have hgr := grown1_drew w (.cells ((vals.toList.take (n * i.size)).toArray ++ news.toArray ++ Builtin.zeroCells z.cells (grownCap w (n + m) cap e - (n + m))) e)
    have htl : (vals.toList.take (n * i.size)).length = n * i.size := by simp; omega
    have hzl : (Builtin.zeroCells z.cells (grownCap w (n + m) cap e - (n + m))).size = (grownCap w (n + m) cap e - (n + m)) * i.size := by rw [size_zeroCells, hzs]
    generalize hvals : ((vals.toList.take (n * i.size)).toArray ++ news.toArray ++ Builtin.zeroCells z.cells (grownCap w (n + m) cap e - (n + m)) : Array Value) = vals' at hrun hgr
    have hsz : vals'.size = grownCap w (n + m) cap e * i.size := by
      rw [← hvals, Array.size_append, Array.size_append, hzl, List.size_toArray, List.size_toArray, htl, hnl, ← Nat.add_mul, ← Nat.add_mul, Nat.add_sub_cancel' hge]
    have hfull : (n + m) * i.size ≤ grownCap w (n + m) cap e * i.size := Nat.mul_le_mul_right _ hge
    rw [Nat.add_mul] at hfull
    refine ⟨w.heap.size, _, _, vals', (0, 0), hrun, hge, hle, hgr.new, fun i _ h => by simp [inFz] at h, by omega, by omega, fun j hj => ?_, fun j hj => ?_, fun b hb' _ => hgr.old b hb', .inr rfl, by rw [hgr.size]; omega, by rw [hgr.size]; omega, hgr.os, hgr.tape, hgr.output, grows_old hgr.old⟩
    · rw [← hvals, Array.getElem?_append_left (by simp; omega), Array.getElem?_append_left (by simp; omega)]
      simp [hj]
    · rw [← hvals, Array.getElem?_append_left (by rw [Array.size_append, List.size_toArray, List.size_toArray, htl]; omega), Array.getElem?_append_right (by rw [List.size_toArray, htl]; omega), List.size_toArray, htl]
      simp
section
variable {E : Env} {P : Program} {T : Tab} {st : St} {o : Oper} {k : KH}
def evAppendGrow (T : Tab) (st : St) (ty tx : TypeId) (s x : Operand) (k : KH) : Prop :=
  match T.at ty with
  | none => False
  | some ti => match ti.desc with
    | .slice e => match evV T st ty s with
      | .row id 0 n sz => optE st.H[id]? fun ob => match ob with
        | .cells t cs tg => (Nat.blt 0 ti.esz = true ∧ sz = ti.esz ∧ t = e ∧ cs.length = n * sz ∧ tg = []) ∧ srcE T st tx x e ti.esz fun ys =>
          (n + ys.length ≤ maxLen ∧ (n + ys.length) * ti.eby ≤ 140737488355328) ∧ ∃ cs', cs ++ ys.flatMap AV.cells = cs' ∧
          k (.row st.H.length 0 (n + ys.length) sz) none (st.H.set id .dead ++ [.cells e cs' []]) st.k (opN s ++ opN x ++ [.obj id, .obj st.H.length]) [.obj id, .obj st.H.length]
        | _ => False
      | _ => False
    | _ => False
theorem evAppendGrow_ok (hT : TOk P T) {ty tx : TypeId} {s x : Operand} (hc : constOk T o = true) (ho : o.op = .call { callee := .builtin .append, args := #[s, x], argTypes := #[ty, tx] }) (h : evAppendGrow T st ty tx s x k) : YldH E P st o k := by
  unfold evAppendGrow at h
  split at h
  · exact h.elim
  · rename_i ti hti
    have hf := hT _ _ hti
    have hu := hf.under
    split at h
    · rename_i e hd
      rw [hd] at hu
      split at h
      · rename_i id n sz hs
        obtain ⟨ob, hob, h⟩ := optE_ok h
        split at h
        · rename_i t cs tg
          obtain ⟨⟨hb0, hse, rfl, hcl, rfl⟩, h⟩ := h
          have hsp : 0 < ti.esz := by simpa [Nat.blt_eq] using hb0
          obtain ⟨ys, ⟨⟨h4, h5⟩, cs', hcs', h⟩, d, hud, hdn, hsrc⟩ := srcE_ok (E := E) hT hsp (constOk.at hc (ty := tx) (x := x) (by simp [opcs, ho])) h
          subst hcs'
          rw [← hse] at hsp hsrc
          obtain ⟨i0, z, hi0, hs0, hby0, hz0, hzs, hzo⟩ := hf.elem_info (.inl hd)
          have hidl : id < st.H.length := (List.getElem?_eq_some_iff.1 hob).1
          have hll : (st.H.set id .dead).length = st.H.length := List.length_set ..
          refine ⟨_, _, _, _, _, _, h, ⟨by simp, fun l hl => ?_, fun B G w a hg hN K Q hK => ?_⟩⟩
          · cases l with
            | slot => trivial
            | obj j =>
              have h1 : j ≠ id := fun e => hl (by simp [e])
              have h2 : j ≠ st.H.length := fun e => hl (by simp [e])
              have h3 := app_same (st.H.set id .dead) (.cells t (cs ++ ys.flatMap AV.cells) []) (i := j) (by rw [hll]; exact h2)
              rw [List.getElem?_set_ne (fun e => h1 e.symm)] at h3
              exact h3
            | tok j => rfl
          · have hsl := evV_ok (T := T) hg (constOk.at hc (ty := ty) (x := s) (by simp [opcs, ho])) fun l hl => hN l (by simp [hl])
            rw [hs] at hsl
            obtain ⟨hlen, hysz, news, hnl, hnone, hnrun, hnget⟩ := hsrc B G w a hg fun l hl => hN l (by simp [hl])
            have hobj : RepObj G w id st.H[id]? := hN (.obj id) (by simp)
            rw [hob] at hobj
            have hι : G.ι st.H.length = none := by
              have := hN (.obj st.H.length) (by simp)
              simp only [RepL] at this
              rw [List.getElem?_eq_none (Nat.le_refl _)] at this
              exact this
            have hes : ∀ w, (sizeOf t).run P w = .ok i0.size w := fun w => by rw [hs0]; exact hf.run_esz w (.inl hd)
            have hszi : sz = i0.size := hse.trans hs0.symm
            have hexec : ∀ sv v w', a.eval s = sv → (Builtin.append_ #[ty, tx] o.type #[sv, a.eval x]).run P w = .ok v w' → (execOp a.eval o).run P w = .ok (.value v) w' := by
              intro sv v w' hsv hh
              rw [run_builtin ho]
              have he : (#[s, x] : Array Operand).map a.eval = #[sv, a.eval x] := by simp [hsv]
              rw [he]
              simp only [builtin, Sem.run_bind, hh, Result.andThen_ok, Sem.run_pure]
            have hlast : ∀ x : AObj, (st.H.set id .dead ++ [x])[st.H.length]? = some x := fun x => by rw [List.getElem?_append_right (by rw [hll]; exact Nat.le_refl _), hll]; simp
            have hdead : ∀ x : AObj, (st.H.set id .dead ++ [x])[id]? = some .dead := fun x => by rw [List.getElem?_append_left (by rw [hll]; exact hidl)]; simp [hidl]
            have fin : ∀ (g g1 cap' : Nat) (w' : World) (vals vals' : Array Value) (fz' : Nat × Nat), (g1 ≠ w.heap.size → G.O g1 = some (.inl id) ∧ ∀ x, ¬ G.F g1 x) →
                (∀ (j : Nat) (c : AV), cs[j]? = some c → ∃ v, vals[j]? = some v ∧ v.oneCell' = true ∧ RepSlot G w v c none) → n + ys.length ≤ cap' → cap' ≤ maxLen → Grew w w' g g1 sz n cap' t vals vals' fz' news →
                K (a.put o.dst (.slice (some ⟨g1, 0, none⟩) (n + ys.length) cap')) w' := by
              intro g g1 cap' w' vals vals' fz' hg1 hold hc1 hc2 hgw
              let G1 : Gh := { F := G.F, ι := setI G.ι st.H.length g1, κ := G.κ, O := setI G.O g1 (.inl st.H.length) }
              have hFne : ∀ b o', G.F b o' → b ≠ g1 := fun b o' hb e => by
                by_cases h : g1 = w.heap.size
                · have := hg.fin b o' hb; omega
                · exact (hg1 h).2 o' (e ▸ hb)
              have hOne : ∀ b y, G.O b = some y → y ≠ .inl id → b ≠ g1 := fun b y hb hy e => by
                by_cases h : g1 = w.heap.size
                · have := (hg.own b y hb).1; omega
                · have := (hg1 h).1
                  rw [← e, hb] at this
                  injection this with this
                  exact hy this
              have hx : Ext G w G1 w' := ⟨fun _ _ h => h, fun j g' hj => by
                have : j ≠ st.H.length := fun e => by rw [e, hι] at hj; cases hj
                show setI _ _ _ j = _
                rw [setI_other _ _ this]; exact hj, fun _ _ h => h, fun b o' hb => cell_congr (hgw.blk b (hg.fin b o' hb) (hFne b o' hb)), hgw.gr⟩
              refine hK G1 w' _ (hg.step hgw.size (fun b hb hn => hgw.blk b hb (fun e => ?_)) hx.w (fun _ _ h => h) (fun b o' hb => ⟨Nat.lt_of_lt_of_le (hg.fin b o' hb) hgw.size, .inl hb⟩) (fun b j hj => ?_) hgw.os hgw.tape hgw.output hx)
                ⟨hx, fun j c hj hc => hc.keep hx (fun hn => ?_) (fun g' hg' => ?_), fun j c _ hc => hc.keep hx (fun h => h) (fun g' hg' => ?_)⟩ ⟨?_, trivial⟩ fun l hl => ?_
              · by_cases h : g1 = w.heap.size
                · omega
                · rw [e, (hg1 h).1] at hn; cases hn
              · by_cases hbg : b = g1
                · subst hbg
                  refine ⟨hgw.lt, ?_⟩
                  by_cases h : b = w.heap.size
                  · exact .inl (by omega)
                  · exact .inr (by rw [(hg1 h).1]; simp)
                · have hj' : G.O b = some j := by rw [← hj]; exact (setI_other _ _ hbg).symm
                  exact ⟨Nat.lt_of_lt_of_le (hg.own b j hj').1 hgw.size, .inr (by rw [hj']; simp)⟩
              · have : j ≠ st.H.length := fun e => hj (by simp [e])
                show setI _ _ _ j = _
                rw [setI_other _ _ this]; exact hn
              · have hne := hOne g' _ hg' (fun e => hj (by injection e with e; simp [e]))
                exact ⟨by show setI _ _ _ g' = _; rw [setI_other _ _ hne]; exact hg', hgw.blk g' (hg.own g' _ hg').1 hne, fun _ h => h⟩
              · have hne := hOne g' _ hg' (fun e => by cases e)
                exact ⟨by show setI _ _ _ g' = _; rw [setI_other _ _ hne]; exact hg', hgw.blk g' (hg.own g' _ hg').1 hne, fun _ h => h⟩
              · refine .row _ _ _ _ _ _ _ (setI_same ..) hc1 hc2 fun _ => ⟨vals', t, fz', hgw.at_, ?_⟩
                rw [Nat.zero_add]; exact hgw.room
              · simp only [List.mem_cons, List.mem_nil_iff, or_false] at hl
                rcases hl with rfl | rfl
                · simp only [RepH, hdead]; trivial
                · simp only [RepH, hlast]
                  refine .inr ⟨g1, setI_same .., setI_same .., fun x hx' => hFne g1 x hx' rfl, vals', fz', hgw.at_, hgw.fz, ?_, fun j c hj => ?_⟩
                  · rw [List.length_append, hcl, flat_len ys hysz, ← hnl]; exact hgw.full
                  · by_cases hjc : j < cs.length
                    · rw [List.getElem?_append_left hjc] at hj
                      obtain ⟨v, u1, u2, u3⟩ := hold j c hj
                      exact ⟨v, (hgw.olds j (by omega)).trans u1, u2, u3.ext hx⟩
                    · rw [List.getElem?_append_right (by omega), hcl] at hj
                      have hjl := (List.getElem?_eq_some_iff.1 hj).1
                      rw [flat_len ys hysz] at hjl
                      generalize hqq : j - n * sz = q at hj hjl
                      have hq : q / sz < ys.length := (Nat.div_lt_iff_lt_mul hsp).2 hjl
                      have hel : ys[q / sz]? = some ys[q / sz] := List.getElem?_eq_getElem hq
                      have hec : (ys[q / sz]).cells.length = sz := hysz _ (List.getElem_mem _)
                      have hmod : q % sz < sz := Nat.mod_lt _ hsp
                      have hcc : (ys[q / sz]).cells[q % sz]? = some (ys[q / sz]).cells[q % sz] := List.getElem?_eq_getElem (by omega)
                      have hdm : q / sz * sz + q % sz = q := by rw [Nat.mul_comm]; exact Nat.div_add_mod q sz
                      have hfg := flat_get ys hysz (q / sz) _ (q % sz) _ hel hcc
                      rw [hdm, hj] at hfg
                      injection hfg with hfg
                      obtain ⟨u, u1, u2⟩ := hnget (q / sz) _ (q % sz) _ hel hcc
                      rw [hdm] at u1
                      refine ⟨u, ?_, hnone u (List.mem_of_getElem? u1), ?_⟩
                      · have h7 := hgw.new q (List.getElem?_eq_some_iff.1 u1).1
                        rw [show n * sz + q = j by omega] at h7
                        exact h7.trans u1
                      · rw [hfg]
                        exact .ofRep (u2.mono hx.F hx.w _ (fun _ _ h => by cases h))
            generalize hsv : a.eval s = sv at hsl
            have hrow := hsl.1
            cases hrow with
            | row _ _ _ _ cap _ g' hg' hcp hm hb =>
              rcases hobj with ⟨_, h0⟩ | ⟨g, i1, i2, i3, vals, fz, i4, i5, i6, i7⟩
              · rw [h0] at hg'; cases hg'
              · rw [i1] at hg'
                injection hg' with hg'
                subst hg'
                obtain ⟨vs2, t2, fz2, q1, q2⟩ := hb hsp
                rw [i4] at q1
                cases q1
                rw [Nat.zero_add] at q2
                have hjc : ∀ j, j < n * sz → ∃ c, cs[j]? = some c := fun j hj => ⟨_, List.getElem?_eq_getElem (by omega)⟩
                obtain ⟨g1, cap', w', vals', fz', hrun, c1, c2, hgw⟩ := run_grow (P := P) w ty tx o.type t d i0 z hu hud hdn hi0 hz0 hzs hes g n cap ys.length (a.eval x) hlen news (by rw [hnl, hszi])
                  (fun w2 h2 => by rw [← hszi]; exact hnrun w2 fun b o' hb => cell_congr (h2 b (hg.fin b o' hb))) hnone i4 i5 (by rw [← hszi, ← hcl]; exact i6)
                  (fun j u hj hu => by
                    obtain ⟨c, hc⟩ := hjc j (by rw [hszi]; exact hj)
                    obtain ⟨v, v1, v2, _⟩ := i7 j c hc
                    rw [hu] at v1
                    injection v1 with v1
                    rw [v1]; exact v2) (by rw [← hszi]; exact q2) hcp hm h4 (by rw [hby0]; exact h5)
                unfold Oper.wp
                rw [hexec _ _ _ hsv hrun]
                rw [← hszi] at hgw
                exact fin g g1 cap' w' vals vals' fz' (fun hne => by
                  rcases hgw.which with e | e
                  · rw [e]; exact ⟨i2, i3⟩
                  · exact absurd e hne) i7 c1 c2 hgw
            | row0 _ _ _ _ ad =>
              have hcs0 : cs = [] := List.eq_nil_of_length_eq_zero (by rw [hcl, Nat.zero_mul])
              unfold Oper.wp
              by_cases hy : ys.length = 0
              · have hy0 : ys = [] := List.eq_nil_of_length_eq_zero hy
                subst hy0
                have hn0' : news = [] := List.eq_nil_of_length_eq_zero (by simpa using hnl)
                subst hn0'
                have hrun := run_append_in (P := P) w ty tx o.type t d i0.size hu hud hdn hes ad 0 0 0 (a.eval x) hlen [] (by rw [← hszi]; exact hnrun w fun _ _ _ => rfl) (by simp) w (by cases ad <;> simp [storeCells])
                rw [hexec _ _ _ hsv hrun]
                refine hK G w _ hg ⟨Ext.refl _ _, fun _ _ _ hc => hc, fun _ _ _ hc => hc⟩ ⟨.row0 .., trivial⟩ fun l hl => ?_
                simp only [List.mem_cons, List.mem_nil_iff, or_false] at hl
                rcases hl with rfl | rfl
                · simp only [RepH, hdead]; trivial
                · simp only [RepH, hlast]
                  exact .inl ⟨by rw [hcs0]; rfl, hι⟩
              · have hrun := run_append_more (P := P) w ty tx o.type t d i0 z hu hud hdn hi0 hz0 ad 0 0 ys.length (a.eval x) hlen [] news (by cases ad <;> simp [Builtin.firstCells, loadCells, loadCellsFrom]) (by rw [← hszi]; exact hnrun w.drew fun _ _ _ => rfl) (by omega) h4 (by rw [hby0]; exact h5)
                have hge := grownCap_ge w (0 + ys.length) 0 t
                have hle := grownCap_le_maxLen w (0 + ys.length) 0 t (by omega)
                have hzl : (Builtin.zeroCells z.cells (grownCap w (0 + ys.length) 0 t - (0 + ys.length))).size = (grownCap w (0 + ys.length) 0 t - (0 + ys.length)) * sz := by rw [size_zeroCells, hzs, hszi]
                generalize hvals : (#[] ++ news.toArray ++ Builtin.zeroCells z.cells (grownCap w (0 + ys.length) 0 t - (0 + ys.length)) : Array Value) = vals' at hrun
                have hgr := grown1_drew w (.cells vals' t)
                have hsz : vals'.size = grownCap w (0 + ys.length) 0 t * sz := by
                  have hge' := hge
                  rw [Nat.zero_add] at hge'
                  rw [← hvals, Array.size_append, Array.size_append, hzl]
                  simp only [List.size_toArray, hnl, List.length_nil, Array.size_empty, Nat.zero_add]
                  rw [← Nat.add_mul, Nat.add_sub_cancel' hge']
                have hfull : ys.length * sz ≤ grownCap w (0 + ys.length) 0 t * sz := Nat.mul_le_mul_right _ (by omega)
                rw [hexec _ _ _ hsv hrun]
                refine fin w.heap.size w.heap.size _ _ #[] vals' (0, 0) (fun hne => absurd rfl hne) (fun j c hj => by rw [hcs0] at hj; simp at hj) hge hle
                  ⟨hgr.new, fun i _ h => by simp [inFz] at h, by omega, by omega, fun j hj => by omega, fun j hj => ?_, fun b hb' _ => hgr.old b hb', .inr rfl, by rw [hgr.size]; omega, by rw [hgr.size]; omega, hgr.os, hgr.tape, hgr.output, grows_old hgr.old⟩
                rw [Nat.zero_mul, Nat.zero_add, ← hvals, Array.getElem?_append_left (by simp; omega), Array.getElem?_append_right (by simp)]
                simp
        · exact h.elim
      · exact h.elim
    · exact h.elim
end
end Go.Pm
