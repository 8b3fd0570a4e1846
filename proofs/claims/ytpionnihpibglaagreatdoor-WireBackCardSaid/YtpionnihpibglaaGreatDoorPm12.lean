/-
  Generic: append.
-/
import Derived.Test.YtpionnihpibglaaGreatDoorPm11
namespace Go.Pm
open Go Go.RowKit
set_option linter.unusedVariables false
set_option linter.unusedSimpArgs false
theorem list_cells {F : Nat → Nat → Prop} {w : World} {ι : Nat → Option Nat} {v : Value} {sz : Nat} {ys : List AV} (h : Rep F w ι v (.list sz ys)) (hsp : 0 < sz) :
  ∃ (ad : Option Addr) (n cap : Nat) (news : List Value), v = .slice ad n cap ∧ n = ys.length ∧ n ≤ cap ∧ cap ≤ maxLen ∧ (∀ e, e ∈ ys → e.cells.length = sz) ∧ news.length = n * sz ∧ (∀ u, u ∈ news → u.oneCell' = true) ∧
   (∀ (P : Program) (w2 : World) (c2 : Nat), (∀ b o, F b o → w2.cell? ⟨b, o, none⟩ = w.cell? ⟨b, o, none⟩) → (Builtin.firstCells sz n (.slice ad n c2)).run P w2 = .ok news.toArray w2) ∧
   (∀ (i : Nat) (e : AV) (j : Nat) (c : AV), ys[i]? = some e → e.cells[j]? = some c → ∃ u, news[i * sz + j]? = some u ∧ Rep F w (fun _ => none) u c) := by
 obtain ⟨ad, n, cap, hv, hn, hc, hm, hsz, hrow⟩ := h.list_inv
 rcases hrow with h0 | ⟨b, o, vals, hb, hF, hcell, hrep⟩
 ·subst h0
  simp only [List.length_nil] at hn
  subst hn
  refine ⟨ad, 0, cap, [], hv, rfl, hc, hm, hsz, by simp, by simp, fun P w2 c2 _ => ?_, fun i e j c hi => by simp at hi⟩
  cases ad with
  | none => simp [Builtin.firstCells]
  | some a => simp [Builtin.firstCells, loadCells, loadCellsFrom]
 ·subst hb
  have hdm : ∀ j, j < n * sz → j / sz < ys.length ∧ j % sz < sz := fun j hj => ⟨by rw [← hn]; exact (Nat.div_lt_iff_lt_mul hsp).2 hj, Nat.mod_lt _ hsp⟩
  have hall : ∀ j, j < n * sz → w.cell? ⟨b, o + j, none⟩ = some (vals (j / sz) (j % sz)) ∧ (vals (j / sz) (j % sz)).oneCell' = true := fun j hj => by
   obtain ⟨h1, h2⟩ := hdm j hj
   have he := hsz _ (List.getElem_mem h1)
   have := hcell (j / sz) _ (j % sz) _ (List.getElem?_eq_getElem h1) (List.getElem?_eq_getElem (by rw [he]; exact h2))
   rw [Nat.mul_comm, Nat.div_add_mod] at this
   exact this
  refine ⟨some ⟨b, o, none⟩, n, cap, (List.range (n * sz)).map fun j => vals (j / sz) (j % sz), hv, hn, hc, hm, hsz, by simp, fun u hu => ?_, fun P w2 c2 hw2 => ?_, fun i e j c hi hj => ?_⟩
  ·obtain ⟨j, hj, rfl⟩ := List.mem_map.1 hu
   exact (hall j (List.mem_range.1 hj)).2
  ·refine run_firstCells_some w2 sz n _ n c2 _ (by simp) fun j u hu => ?_
   have hj : j < n * sz := by have := (List.getElem?_eq_some_iff.1 hu).1; simpa using this
   have hu' : vals (j / sz) (j % sz) = u := by simpa [hj] using hu
   rw [add_plain, hw2 _ _ (hF j (by rw [← hn]; exact hj)), (hall j hj).1, hu']
  ·have hil := (List.getElem?_eq_some_iff.1 hi).1
   have he := hsz e (List.mem_of_getElem? hi)
   have hjl : j < sz := by rw [← he]; exact (List.getElem?_eq_some_iff.1 hj).1
   have hlt : i * sz + j < n * sz := by
    have h1 : (i + 1) * sz ≤ n * sz := Nat.mul_le_mul_right _ (by omega)
    rw [Nat.add_mul] at h1
    omega
   refine ⟨vals i j, ?_, hrep i e j c hi hj⟩
   have h1 : (i * sz + j) / sz = i := by
    rw [Nat.mul_comm, Nat.mul_add_div hsp, Nat.div_eq_of_lt hjl, Nat.add_zero]
   have h2 : (i * sz + j) % sz = j := by
    rw [Nat.mul_comm, Nat.mul_add_mod, Nat.mod_eq_of_lt hjl]
   simp [hlt, h1, h2]
section
variable {P : Program} (w : World)
theorem run_append_in (t u ty e : TypeId) (d : TypeDesc) (size : Nat) (ht : P.underlying t = some (.slice e)) (hu : P.underlying u = some d) (hd : ∀ k, d ≠ .int k) (hsize : ∀ w, (sizeOf e).run P w = .ok size w)
  (ad : Option Addr) (n cap m : Nat) (x : Value) (hl : (Builtin.lenOf x).run P w = .ok m w) (news : List Value) (hf : (Builtin.firstCells size m x).run P w = .ok news.toArray w) (hroom : n + m ≤ cap) (w' : World)
  (hst : match ad with | some a => (storeCells (a.add (n * size)) news 0).run P w = .ok () w' | none => w' = w) :
  (Builtin.append_ #[t, u] ty #[.slice ad n cap, x]).run P w = .ok (.slice ad (n + m) cap) w' := by
 have hz : (match d with | .int _ => true | _ => false) = false := by cases d <;> first | rfl | exact absurd rfl (hd _)
 cases ad with
 | none =>
  subst hst
  simp [Builtin.append_, run_underlying ht, run_underlying hu, hsize, hz, hl, hroom, hf]
 | some a =>
  simp only at hst
  simp [Builtin.append_, run_underlying ht, run_underlying hu, hsize, hz, hl, hroom, hf, hst]
theorem run_append_more (t u ty e : TypeId) (d : TypeDesc) (i : TypeInfo) (z : Value) (ht : P.underlying t = some (.slice e)) (hu : P.underlying u = some d) (hd : ∀ k, d ≠ .int k) (hi : P.info? e = some i) (hz : i.zero = some z)
  (ad : Option Addr) (n cap m : Nat) (x : Value) (hl : (Builtin.lenOf x).run P w = .ok m w) (olds news : List Value) (hf0 : (Builtin.firstCells i.size n (.slice ad n cap)).run P w.drew = .ok olds.toArray w.drew)
  (hf1 : (Builtin.firstCells i.size m x).run P w.drew = .ok news.toArray w.drew) (hg : cap < n + m) (h63 : n + m ≤ maxLen) (hb : (n + m) * i.bytes ≤ 140737488355328) :
  (Builtin.append_ #[t, u] ty #[.slice ad n cap, x]).run P w = .ok (.slice (some ⟨w.heap.size, 0, none⟩) (n + m) (grownCap w (n + m) cap e))
   (w.drew.alloc (.cells (olds.toArray ++ news.toArray ++ Builtin.zeroCells z.cells (grownCap w (n + m) cap e - (n + m))) e)) := by
 have hzr : (match d with | .int _ => true | _ => false) = false := by cases d <;> first | rfl | exact absurd rfl (hd _)
 have hn : ¬ (n + m ≤ cap) := by omega
 have h63' : ¬ (9223372036854775807 < ((n : Int) + (m : Int))) := by unfold maxLen at h63; omega
 have h48 := growslice_fits (bytes := i.bytes) hg hb
 have h48' : ¬ (281474976710656 < Builtin.nextslicecap (n + m) cap * i.bytes) := by omega
 simp [Builtin.append_, run_underlying ht, run_underlying hu, sizeOf, typeInfo, zeroValue, hi, hz, hzr, hl, hn, h63', h48', Question.forced, hf0, hf1, newRow, grownCap]
 congr 2
 apply Array.ext'
 simp
end
section
variable {E : Env} {P : Program} {T : Tab} {st : St} {o : Oper} {k : KH}
def srcE (T : Tab) (st : St) (ty : TypeId) (x : Operand) (e : TypeId) (sz : Nat) (k : List AV → Prop) : Prop :=
 unc true (evV T st ty x) fun b => optE (T.at ty) fun ti => match ti.desc, b with
  | .slice _, .list sz' ys => sz' = sz ∧ k ys
  | .string, .str t => ((T.at e).any (fun ti => ti.desc matches .int .u8) = true ∧ Nat.beq sz 1 = true) ∧ k (t.map byteAV)
  | _, _ => False
theorem srcE_ok (hT : TOk P T) {ty : TypeId} {x : Operand} {e : TypeId} {sz : Nat} (hsp : 0 < sz) {k : List AV → Prop} (hc : cOk T ty x = true) (h : srcE T st ty x e sz k) :
  ∃ ys, k ys ∧ ∃ d, P.underlying ty = some d ∧ (∀ k, d ≠ .int k) ∧ ∀ (B : Base) (G : Gh) (w : World) (a : Act), Good E B G w → (∀ l, l ∈ opN x → RepL G w a l st) →
   (Builtin.lenOf (a.eval x)).run P w = .ok ys.length w ∧ (∀ e, e ∈ ys → e.cells.length = sz) ∧ ∃ news : List Value, news.length = ys.length * sz ∧ (∀ u, u ∈ news → u.oneCell' = true) ∧
   (∀ (w2 : World), (∀ b o, G.F b o → w2.cell? ⟨b, o, none⟩ = w.cell? ⟨b, o, none⟩) → (Builtin.firstCells sz ys.length (a.eval x)).run P w2 = .ok news.toArray w2) ∧
   (∀ (i : Nat) (e : AV) (j : Nat) (c : AV), ys[i]? = some e → e.cells[j]? = some c → ∃ u, news[i * sz + j]? = some u ∧ Rep G.F w (fun _ => none) u c) := by
 unfold srcE at h
 obtain ⟨b', h, hb'⟩ := unc_ok h
 obtain ⟨ti, hti, h⟩ := optE_ok h
 have hu := (hT _ _ hti).under
 split at h
 ·rename_i e' sz' ys hd _
  obtain ⟨hsz', hk⟩ := h
  subst hsz'
  rw [hd] at hu
  refine ⟨ys, hk, _, hu, by simp, fun B G w a hg hN => ?_⟩
  have r := hb' rfl _ _ _ _ (evV_ok (T := T) hg hc hN).1
  obtain ⟨ad, n, cap, news, hv, hn, hcap, hm, hsz, hl, hone, hrun, hget⟩ := list_cells r hsp
  rw [hv, ← hn]
  exact ⟨rfl, hsz, news, hl, hone, fun w2 hw2 => hrun P w2 cap hw2, hget⟩
 ·rename_i t hd _
  obtain ⟨⟨hb, hs1⟩, hk⟩ := h
  have hs1' : sz = 1 := Nat.eq_of_beq_eq_true hs1
  subst hs1'
  rw [hd] at hu
  refine ⟨_, hk, _, hu, by simp, fun B G w a hg hN => ?_⟩
  have r := hb' rfl _ _ _ _ (evV_ok (T := T) hg hc hN).1
  generalize a.eval x = v at *
  cases r with
  | str _ _ hl =>
  have hz : (⟨t.toArray⟩ : ByteArray).size = t.length := by simp [ByteArray.size]
  refine ⟨by simp [Builtin.lenOf, hz], fun e he => (by obtain ⟨b, _, rfl⟩ := List.mem_map.1 he; rfl), t.map fun b => .int .u8 (b.toNat : Int), by simp, fun u hu => (by obtain ⟨b, _, rfl⟩ := List.mem_map.1 hu; rfl), fun w2 _ => ?_, fun i e j c hi hj => ?_⟩
  ·simp only [Builtin.firstCells, List.length_map]
   have : (⟨t.toArray⟩ : ByteArray).extract 0 t.length = ⟨t.toArray⟩ := by
    rw [ByteArray.extract_mk]; simp
   rw [this]
   simp
  ·have hi' : t[i]?.map byteAV = some e := by simpa using hi
   cases hs : t[i]? with
   | none => rw [hs] at hi'; cases hi'
   | some b =>
    rw [hs] at hi'
    simp only [Option.map_some, Option.some.injEq] at hi'
    subst hi'
    cases j with
    | zero =>
     simp only [byteAV, AV.cells, List.getElem?_cons_zero, Option.some.injEq] at hj
     subst hj
     exact ⟨.int .u8 b.toNat, by simp [hs], .int _ _ _ (u8_wrap b)⟩
    | succ j => simp [byteAV, AV.cells] at hj
 ·exact h.elim
def evAppend (T : Tab) (st : St) (ty tx : TypeId) (s x : Operand) (k : KH) : Prop :=
 match T.at ty with
 | none => False
 | some ti => match ti.desc with
  | .slice e => optE (tgV st s) fun i => match evV T st ty s with
   | .list sz xs => (Nat.blt 0 ti.esz = true ∧ sz = ti.esz ∧ st.k[i]?.any (Nat.blt 0) = true) ∧ srcE T st tx x e ti.esz fun ys =>
     (xs.length + ys.length ≤ maxLen ∧ (xs.length + ys.length) * ti.eby ≤ 140737488355328) ∧
     k (.list sz (xs ++ ys)) (some st.k.length) st.H (st.k.set i 0 ++ [1]) (opN s ++ opN x ++ [.tok i, .tok st.k.length]) [.tok i, .tok st.k.length]
   | _ => False
  | _ => False
theorem Rep.list_of {F : Nat → Nat → Prop} {w : World} {ι : Nat → Option Nat} {b o n cap sz : Nat} {xs : List AV} (hn : n = xs.length) (hc : n ≤ cap) (hm : cap ≤ maxLen)
  (hsz : ∀ e, e ∈ xs → e.cells.length = sz) (hF : ∀ j, j < xs.length * sz → F b (o + j))
  (h : ∀ (i : Nat) (e : AV) (j : Nat) (c : AV), xs[i]? = some e → e.cells[j]? = some c → ∃ u, w.cell? ⟨b, o + (i * sz + j), none⟩ = some u ∧ u.oneCell' = true ∧ Rep F w (fun _ => none) u c) :
  Rep F w ι (.slice (some ⟨b, o, none⟩) n cap) (.list sz xs) := by
 refine .list ι b o n cap sz xs (fun i j => (w.cell? ⟨b, o + (i * sz + j), none⟩).getD undef) hn hc hm hsz hF (fun i e j c hi hj => ?_) (fun i e j c hi hj => ?_)
 ·obtain ⟨u, h1, h2, _⟩ := h i e j c hi hj
  simp only [h1, Option.getD_some]; exact ⟨trivial, h2⟩
 ·obtain ⟨u, h1, _, h3⟩ := h i e j c hi hj
  simp only [h1, Option.getD_some]; exact h3
theorem evAppend_ok (hT : TOk P T) {ty tx : TypeId} {s x : Operand} (hc : constOk T o = true) (ho : o.op = .call { callee := .builtin .append, args := #[s, x], argTypes := #[ty, tx] }) (h : evAppend T st ty tx s x k) : YldH E P st o k := by
 unfold evAppend at h
 split at h
 ·exact h.elim
 ·rename_i ti hti
  have hf := hT _ _ hti
  have hu := hf.under
  split at h
  ·rename_i e hd
   rw [hd] at hu
   obtain ⟨i, hi, h⟩ := optE_ok h
   split at h
   ·rename_i sz xs hs
    obtain ⟨⟨hb0, hse, halive⟩, h⟩ := h
    have hsp : 0 < ti.esz := by simpa [Nat.blt_eq] using hb0
    obtain ⟨ys, ⟨⟨h4, h5⟩, h⟩, d, hud, hdn, hsrc⟩ := srcE_ok (E := E) hT hsp (constOk.at hc (ty := tx) (x := x) (by simp [opcs, ho])) h
    rw [← hse] at hsp hsrc
    obtain ⟨i0, z, hi0, hs0, hby0, hz0, hzs, hzo⟩ := hf.elem_info (.inl hd)
    refine ⟨_, _, _, _, _, _, h, ⟨by simp, fun l hl => ?_, fun B G w a hg hN K Q hK => ?_⟩⟩
    ·cases l with
     | slot => trivial
     | obj j => rfl
     | tok j =>
      have h1 : j ≠ i := fun e => hl (by simp [e])
      have h2 : j ≠ (st.k.set i 0).length := fun e => hl (by simp at e; simp [e])
      exact (set_same _ _ _ _ h1).trans (app_same _ _ h2)
    ·have hsl := evV_ok (T := T) hg (constOk.at hc (ty := ty) (x := s) (by simp [opcs, ho])) fun l hl => hN l (by simp [hl])
     rw [hs, hi] at hsl
     obtain ⟨ad, n, cap, olds, hv, hn, hcap, hm, hsz, hol, hoone, horun, hoget⟩ := list_cells hsl.1 hsp
     obtain ⟨hlen, hysz, news, hnl, hnone, hnrun, hnget⟩ := hsrc B G w a hg fun l hl => hN l (by simp [hl])
     obtain ⟨ad0, n0, cap0, hv0, hn0, _, _, _, hrow⟩ := hsl.1.list_inv
     rw [hv] at hv0
     injection hv0 with e1 e2 e3
     subst e1 e2 e3
     obtain ⟨sz2, xs2, n2, cap2, g, lo, hi2, ad2, t1, t2, t3, t4, t5, t6, t7⟩ := hsl.2.list (by simp)
     injection t1 with t1a t1b
     subst t1a t1b
     rw [hv] at t2
     injection t2 with e1 e2 e3
     subst e1 e2 e3
     have hκ : G.κ st.k.length = none := by
      have := hN (.tok st.k.length) (by simp)
      simp only [RepL] at this
      rw [List.getElem?_eq_none (Nat.le_refl _)] at this
      exact this
     have htok : RepTok G w i st.k[i]? := hN (.tok i) (by simp)
     have hilt : i < st.k.length := by
      rcases Nat.lt_or_ge i st.k.length with hh | hh
      ·exact hh
      ·rw [List.getElem?_eq_none hh] at halive; cases halive
     have hne : i ≠ st.k.length := Nat.ne_of_lt hilt
     have hki : (st.k.set i 0 ++ [1])[i]? = some 0 := by
      rw [List.getElem?_append_left (by simpa using hilt), List.getElem?_set_self hilt]
     have hkn : (st.k.set i 0 ++ [1])[st.k.length]? = some 1 := by
      rw [List.getElem?_append_right (by simp)]; simp
     have hszl : ∀ e, e ∈ xs ++ ys → e.cells.length = sz := fun e he => by
      rcases List.mem_append.1 he with he | he
      ·exact hsz e he
      ·exact hysz e he
     have hxl : (xs ++ ys).length = n + ys.length := by rw [List.length_append, hn]
     have hes : ∀ w, (sizeOf e).run P w = .ok sz w := fun w => by rw [hse]; exact hf.run_esz w (.inl hd)
     have hexec : ∀ v w', (Builtin.append_ #[ty, tx] o.type #[.slice ad n cap, a.eval x]).run P w = .ok v w' → (execOp a.eval o).run P w = .ok (.value v) w' := by
      intro v w' hh
      rw [run_builtin ho]
      have he : (#[s, x] : Array Operand).map a.eval = #[.slice ad n cap, a.eval x] := by simp [hv]
      rw [he]
      simp only [builtin, Sem.run_bind, hh, Result.andThen_ok, Sem.run_pure]
     have hkn2 : ∀ j, j ≠ st.k.length → ∀ (r : Nat × Nat × Nat), setI G.κ st.k.length r j = G.κ j := fun j hj r => setI_other _ _ hj
     unfold Oper.wp
     by_cases hroom : n + ys.length ≤ cap
     ·rcases t7 with t7 | ⟨hlt, o1, had, hlo, hhi⟩
      · -- no spare room: nothing is appended
       have hy0 : ys = [] := List.eq_nil_of_length_eq_zero (by omega)
       subst hy0
       have hn0' : news = [] := List.eq_nil_of_length_eq_zero (by simpa using hnl)
       subst hn0'
       have hrun := run_append_in (P := P) w ty tx o.type e d sz hu hud hdn hes ad n cap 0 (a.eval x) hlen [] (hnrun w fun _ _ _ => rfl) (by simpa using hroom) w (by cases ad <;> simp [storeCells])
       rw [hexec _ _ hrun]
       have hx : Ext G w { G with κ := setI G.κ st.k.length (0, 0, 0) } w := ⟨fun _ _ h => h, fun _ _ h => h, fun j r hj => by
        have : j ≠ st.k.length := fun e => by rw [e, hκ] at hj; cases hj
        show setI _ _ _ j = _
        rw [hkn2 j this]; exact hj, fun _ _ _ => rfl⟩
       refine hK { G with κ := setI G.κ st.k.length (0, 0, 0) } w _ ⟨hg.fin, hg.own, hg.size, hg.old, hg.keep, hg.new, hg.os, hg.tape, hg.output, hg.glob, hg.gb, hg.ids, fun i r hi => ⟨(hg.toks i r hi).1, hx.κ _ _ (hg.toks i r hi).2⟩⟩ ⟨hx, fun j c _ hc => hc.keep hx (fun h => h) (fun g h => ⟨h, rfl, fun _ h => h⟩), fun j c hj hc => hc.keep hx (fun hn => ?_) (fun g h => ⟨h, rfl, fun _ h => h⟩)⟩ ⟨?_, ?_⟩ fun l hl => ?_
       ·have : j ≠ st.k.length := fun e => hj (by simp [e])
        show setI _ _ _ j = _
        rw [hkn2 j this]; exact hn
       ·rw [List.append_nil, Nat.add_zero, ← hv]; exact hsl.1
       ·rw [List.append_nil, Nat.add_zero]
        exact .inl ⟨sz, xs, n, cap, 0, 0, 0, ad, rfl, rfl, setI_same .., hn, hcap, hm, .inl t7⟩
       ·simp only [List.mem_cons, List.mem_nil_iff, or_false] at hl
        rcases hl with rfl | rfl
        ·simp only [RepH, hki]; trivial
        ·simp only [RepH, hkn]; exact ⟨0, 0, 0, setI_same .., fun h => absurd h (Nat.lt_irrefl _)⟩
      · -- in place
       subst had
       have htok1 : G.O g = some (.inr i) ∧ (∀ x, lo ≤ x → ¬ G.F g x) ∧ ∃ vals t fz, w.heap[g]? = some (.cells vals t fz) ∧ hi2 ≤ vals.size ∧ ∀ x, lo ≤ x → x < hi2 → ¬ inFz fz x := by
        obtain ⟨tk, htk⟩ : ∃ tk, st.k[i]? = some tk := ⟨_, List.getElem?_eq_getElem hilt⟩
        rw [htk] at htok halive
        match tk, htok, halive with
        | 0, _, ha => cases ha
        | 1, ⟨g', lo', hi', k1, k2⟩, _ =>
         rw [t3] at k1
         injection k1 with k1
         injection k1 with k1a k1
         injection k1 with k1b k1c
         subst k1a k1b k1c
         exact k2 hlt
        | _ + 2, ⟨g', lo', k1⟩, _ =>
         rw [t3] at k1
         injection k1 with k1
         injection k1 with k1a k1
         injection k1 with k1b k1c
         omega
       obtain ⟨k1, k2, vals, t, fz, k3, k4, k5⟩ := htok1
       have hmul : (n + ys.length) * sz ≤ cap * sz := Nat.mul_le_mul_right _ hroom
       rw [Nat.add_mul] at hmul
       obtain ⟨w', hst, hwr⟩ := run_stores (P := P) g (o1 + n * sz) news 0 w vals t fz k3 (fun x hx1 hx2 => by
        rw [hnl] at hx2
        exact ⟨by omega, k5 x (by omega) (by omega)⟩) hnone
       simp only [Nat.add_zero] at hwr
       have hrun := run_append_in (P := P) w ty tx o.type e d sz hu hud hdn hes (some ⟨g, o1, none⟩) n cap ys.length (a.eval x) hlen news (hnrun w fun _ _ _ => rfl) hroom w' (by simp only [add_plain]; exact hst)
       rw [hexec _ _ hrun]
       obtain ⟨vals', v1, v2, v3⟩ := hwr.new _ _ _ k3
       rw [hnl, ← hlo] at v3
       have hcellF : ∀ b o', G.F b o' → w'.cell? ⟨b, o', none⟩ = w.cell? ⟨b, o', none⟩ := fun b o' hb => by
        by_cases hbg : b = g
        ·subst hbg
         have : ¬ lo ≤ o' := fun hle => k2 o' hle hb
         rw [cell_at v1, cell_at k3, v3, if_neg (by omega)]
        ·exact cell_congr (hwr.old b hbg)
       have hglt := (hg.own g _ k1).1
       let G1 : Gh := { F := fun b x => G.F b x ∨ (b = g ∧ lo ≤ x ∧ x < lo + ys.length * sz), ι := G.ι, κ := setI G.κ st.k.length (g, lo + ys.length * sz, hi2), O := setI G.O g (.inr st.k.length) }
       have hx : Ext G w G1 w' := ⟨fun _ _ h => .inl h, fun _ _ h => h, fun j r hj => by
        have : j ≠ st.k.length := fun e => by rw [e, hκ] at hj; cases hj
        show setI _ _ _ j = _
        rw [hkn2 j this]; exact hj, hcellF⟩
       refine hK G1 w' _ (hg.step (by rw [hwr.size]; exact Nat.le_refl _) (fun b _ hn => hwr.old b (fun e => by rw [e, k1] at hn; cases hn)) hcellF (fun _ _ h => .inl h) (fun b o' hb => ?_) (fun b j hj => ?_) hwr.os hwr.tape hwr.output hx)
        ⟨hx, fun j c _ hc => hc.keep hx (fun h => h) (fun g2 hg2 => ?_), fun j c hj hc => hc.keep hx (fun hn => ?_) (fun g2 hg2 => ?_)⟩ ⟨?_, ?_⟩ fun l hl => ?_
       ·rw [hwr.size]
        rcases hb with hb | ⟨hb, _⟩
        ·exact ⟨hg.fin b o' hb, .inl hb⟩
        ·subst hb; exact ⟨hglt, .inr (.inr (by rw [k1]; simp))⟩
       ·rw [hwr.size]
        by_cases hbg : b = g
        ·subst hbg; exact ⟨hglt, .inr (by rw [k1]; simp)⟩
        ·have hj' : G.O b = some j := by rw [← hj]; exact (setI_other _ _ hbg).symm
         exact ⟨(hg.own b j hj').1, .inr (by rw [hj']; simp)⟩
       ·have hgg : g2 ≠ g := fun e => by rw [e, k1] at hg2; cases hg2
        refine ⟨by show setI _ _ _ g2 = _; rw [setI_other _ _ hgg]; exact hg2, hwr.old g2 hgg, fun x hx' => ?_⟩
        rcases hx' with hx' | ⟨hx', _⟩
        ·exact hx'
        ·exact absurd hx' hgg
       ·have : j ≠ st.k.length := fun e => hj (by simp [e])
        show setI _ _ _ j = _
        rw [hkn2 j this]; exact hn
       ·have hji : j ≠ i := fun e => hj (by simp [e])
        have hgg : g2 ≠ g := fun e => by
         rw [e, k1] at hg2
         injection hg2 with hg2
         injection hg2 with hg2
         exact hji hg2.symm
        refine ⟨by show setI _ _ _ g2 = _; rw [setI_other _ _ hgg]; exact hg2, hwr.old g2 hgg, fun x hx' => ?_⟩
        rcases hx' with hx' | ⟨hx', _⟩
        ·exact hx'
        ·exact absurd hx' hgg
       · -- the row
        refine Rep.list_of hxl.symm hroom hm hszl (fun j hj => ?_) fun r el j c hr hj => ?_
        ·rw [hxl, Nat.add_mul] at hj
         by_cases hjn : j < n * sz
         ·rcases hrow with h0 | ⟨b, o2, vf, hb, hF, _, _⟩
          ·rw [h0] at hn; simp at hn; rw [hn] at hjn; simp at hjn
          ·injection hb with hb
           injection hb with hb1 hb2
           subst hb1 hb2
           exact .inl (hF j (by rw [← hn]; exact hjn))
         ·exact .inr ⟨rfl, by omega, by omega⟩
        ·rcases Nat.lt_or_ge r xs.length with hrl | hrl
         ·rw [List.getElem?_append_left hrl] at hr
          rcases hrow with h0 | ⟨b, o2, vf, hb, hF, hcell, hrep⟩
          ·rw [h0] at hrl; simp at hrl
          ·injection hb with hb
           injection hb with hb1 hb2
           subst hb1 hb2
           obtain ⟨c1, c2⟩ := hcell r el j c hr hj
           have hjs : j < sz := by rw [← hsz el (List.mem_of_getElem? hr)]; exact (List.getElem?_eq_some_iff.1 hj).1
           have hrs : r * sz + j < xs.length * sz := by
            have h1 : (r + 1) * sz ≤ xs.length * sz := Nat.mul_le_mul_right _ hrl
            rw [Nat.add_mul] at h1
            omega
           refine ⟨vf r j, by rw [hcellF _ _ (hF _ hrs)]; exact c1, c2, (hrep r el j c hr hj).mono hx.F hx.w _ (fun _ _ h => h)⟩
         ·rw [List.getElem?_append_right hrl] at hr
          obtain ⟨u, u1, u2⟩ := hnget _ el j c hr hj
          have hul : (r - xs.length) * sz + j < ys.length * sz := by rw [← hnl]; exact (List.getElem?_eq_some_iff.1 u1).1
          have haddr : o1 + (r * sz + j) = lo + ((r - xs.length) * sz + j) := by
           have : r * sz = n * sz + (r - xs.length) * sz := by rw [← Nat.add_mul]; congr 1; omega
           omega
          refine ⟨u, ?_, hnone u (List.mem_of_getElem? u1), u2.mono hx.F hx.w _ (fun _ _ h => h)⟩
          rw [cell_at v1, v3, haddr, if_pos (by omega)]
          rw [show lo + ((r - xs.length) * sz + j) - lo = (r - xs.length) * sz + j by omega]
          exact u1
       ·refine .inl ⟨sz, xs ++ ys, n + ys.length, cap, g, lo + ys.length * sz, hi2, some ⟨g, o1, none⟩, rfl, rfl, setI_same .., hxl.symm, hroom, hm, ?_⟩
        by_cases hfull : n + ys.length = cap
        ·exact .inl hfull
        ·refine .inr ⟨?_, o1, rfl, by rw [Nat.add_mul]; omega, hhi⟩
         have : (n + ys.length + 1) * sz ≤ cap * sz := Nat.mul_le_mul_right _ (by omega)
         rw [Nat.add_mul, Nat.add_mul] at this
         omega
       ·simp only [List.mem_cons, List.mem_nil_iff, or_false] at hl
        rcases hl with rfl | rfl
        ·simp only [RepH, hki]; trivial
        ·simp only [RepH, hkn]
         refine ⟨g, lo + ys.length * sz, hi2, setI_same .., fun hlt' => ⟨setI_same .., fun x hx1 hx2 => ?_, vals', t, fz, v1, by rw [v2]; exact k4, fun x hx1 hx2 => k5 x (by omega) hx2⟩⟩
         rcases hx2 with hx2 | ⟨_, _, hx2⟩
         ·exact k2 x (by omega) hx2
         ·omega
     · -- a new row
      have hrun := run_append_more (P := P) w ty tx o.type e d i0 z hu hud hdn hi0 hz0 ad n cap ys.length (a.eval x) hlen olds news (by rw [hs0, ← hse]; exact horun P w.drew cap fun _ _ _ => rfl) (by rw [hs0, ← hse]; exact hnrun w.drew fun _ _ _ => rfl) (by omega) (by omega) (by rw [hby0, hn]; exact h5)
      rw [hexec _ _ hrun]
      have hge := grownCap_ge w (n + ys.length) cap e
      have hle := grownCap_le_maxLen w (n + ys.length) cap e (by omega)
      have hzl : (Builtin.zeroCells z.cells (grownCap w (n + ys.length) cap e - (n + ys.length))).size = (grownCap w (n + ys.length) cap e - (n + ys.length)) * sz := by rw [size_zeroCells, hzs, hs0, ← hse]
      have htot : (olds.toArray ++ news.toArray ++ Builtin.zeroCells z.cells (grownCap w (n + ys.length) cap e - (n + ys.length))).size = grownCap w (n + ys.length) cap e * sz := by
       simp only [Array.size_append, hzl, List.size_toArray, hol, hnl]
       rw [← Nat.add_mul, ← Nat.add_mul]
       congr 1; omega
      have hgr := grown1_drew w (.cells (olds.toArray ++ news.toArray ++ Builtin.zeroCells z.cells (grownCap w (n + ys.length) cap e - (n + ys.length))) e)
      obtain ⟨n1, n2, n3, _, n4⟩ := new_row hg hκ hgr (fun j _ h => by simp [inFz] at h) hsp (xs := xs ++ ys) (by rw [hxl]; exact hge) hle (by rw [htot]; exact Nat.le_refl _) hszl (fun r el j c hr hj => by
       rcases Nat.lt_or_ge r xs.length with hrl | hrl
       ·rw [List.getElem?_append_left hrl] at hr
        obtain ⟨u, u1, u2⟩ := hoget r el j c hr hj
        refine ⟨u, ?_, hoone u (List.mem_of_getElem? u1), u2⟩
        have hlt := (List.getElem?_eq_some_iff.1 u1).1
        rw [Array.getElem?_append_left (by simp; omega), Array.getElem?_append_left (by simpa using hlt)]
        simpa using u1
       ·rw [List.getElem?_append_right hrl] at hr
        obtain ⟨u, u1, u2⟩ := hnget _ el j c hr hj
        refine ⟨u, ?_, hnone u (List.mem_of_getElem? u1), u2⟩
        have hlt := (List.getElem?_eq_some_iff.1 u1).1
        have haddr : r * sz + j = olds.length + ((r - xs.length) * sz + j) := by
         have : r * sz = n * sz + (r - xs.length) * sz := by rw [← Nat.add_mul]; congr 1; omega
         omega
        rw [haddr, Array.getElem?_append_left (by simp; omega), Array.getElem?_append_right (by simp)]
        simpa using u1)
      refine hK _ _ _ n1 ⟨n2.ext, fun j c _ hc => n2.obj j c (by simp) hc, fun j c hj hc => n2.tok j c (by simp at hj; simp [hj]) hc⟩ (by rw [hxl] at n4 ⊢; exact n4) fun l hl => ?_
      simp only [List.mem_cons, List.mem_nil_iff, or_false] at hl
      rcases hl with rfl | rfl
      ·simp only [RepH, hki]; trivial
      ·simp only [RepH, hkn]; exact n3
   ·exact h.elim
  ·exact h.elim
end
end Go.Pm
