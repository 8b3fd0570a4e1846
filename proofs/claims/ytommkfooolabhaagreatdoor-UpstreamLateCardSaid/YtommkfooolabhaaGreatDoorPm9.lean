/-
  Generic: operations that make memory or write into the call's own.
-/
import Derived.Test.YtommkfooolabhaaGreatDoorPm8
namespace Go.Pm
open Go Go.RowKit
set_option linter.unusedVariables false
set_option linter.unusedSimpArgs false
def AV.flatB : AV → Bool
  | .agg _ => true
  | a => a.one
theorem rep_cells {F : Nat → Nat → Prop} {w : World} {ι : Nat → Option Nat} {v : Value} {a : AV} (h : Rep F w ι v a) (hf : a.flatB = true) :
    v.cells.size = a.cells.length ∧ ∀ (j : Nat) (c : AV), a.cells[j]? = some c → ∃ u, v.cells[j]? = some u ∧ u.oneCell' = true ∧ Rep F w ι u c := by
  cases h with
  | agg _ vs cs hl ho hr =>
    refine ⟨by simpa [Value.cells, AV.cells] using hl, fun j c hc => ?_⟩
    have hj : j < vs.length := by have := (List.getElem?_eq_some_iff.1 hc).1; simp only [AV.cells] at this; omega
    exact ⟨vs[j], by simp [Value.cells, List.getElem?_eq_getElem hj], ho _ (List.getElem_mem hj), hr j _ _ (List.getElem?_eq_getElem hj) hc⟩
  | any => simp [AV.flatB, AV.one] at hf
  | tup => simp [AV.flatB, AV.one] at hf
  | cond0 => simp [AV.flatB, AV.one] at hf
  | cond1 => simp [AV.flatB, AV.one] at hf
  | bool _ b => exact one_cells (.bool _ b) rfl rfl rfl
  | int _ k n h => exact one_cells (.int _ k n h) rfl rfl rfl
  | str _ s h => exact one_cells (.str _ s h) rfl rfl rfl
  | empty _ a cap sz h => exact one_cells (.empty _ a cap sz h) rfl rfl rfl
  | list ι b o n cap sz xs vals hn hc hm hsz hF hv hr => exact one_cells (.list ι b o n cap sz xs vals hn hc hm hsz hF hv hr) rfl rfl rfl
  | row ι id off len cap sz g h hc hm hb => exact one_cells (.row ι id off len cap sz g h hc hm hb) rfl rfl rfl
  | rowR ι id off len cap sz g h hc hm hs hb => exact one_cells (.rowR ι id off len cap sz g h hc hm hs hb) rfl rfl rfl
  | row0 ι id off sz a => exact one_cells (.row0 ι id off sz a) rfl rfl rfl
  | ptr ι id off g h => exact one_cells (.ptr ι id off g h) rfl rfl rfl
  | iptr ι b o cs vals hF hv hr => exact one_cells (.iptr ι b o cs vals hF hv hr) rfl rfl rfl
  | nilp => exact one_cells (.nilp _) rfl rfl rfl
  | fn ι f fs cs fs' cs' hl hl' h h' => exact one_cells (.fn ι f fs cs fs' cs' hl hl' h h') rfl rfl rfl
  | nilf => exact one_cells (.nilf _) rfl rfl rfl
  | iface ι t v a h => exact one_cells (.iface ι t v a h) rfl rfl rfl
  | nili => exact one_cells (.nili _) rfl rfl rfl
  | glob _ g => exact one_cells (.glob _ g) rfl rfl rfl
  | mapv _ id g h => exact one_cells (.mapv _ id g h) rfl rfl rfl
where
  one_cells {F : Nat → Nat → Prop} {w : World} {ι : Nat → Option Nat} {v : Value} {a : AV} (h : Rep F w ι v a) (hv : v.cells = #[v]) (ha : a.cells = [a]) (ho : a.one = true) :
      v.cells.size = a.cells.length ∧ ∀ (j : Nat) (c : AV), a.cells[j]? = some c → ∃ u, v.cells[j]? = some u ∧ u.oneCell' = true ∧ Rep F w ι u c := by
    rw [hv, ha]
    refine ⟨rfl, fun j c hc => ?_⟩
    cases j with
    | zero =>
      simp only [List.getElem?_cons_zero, Option.some.injEq] at hc
      subst hc
      exact ⟨v, rfl, h.one ho, h⟩
    | succ j => simp at hc
def RepCs (F : Nat → Nat → Prop) (w : World) (ι : Nat → Option Nat) (vs : Array Value) (cs : List AV) : Prop :=
  vs.size = cs.length ∧ ∀ (j : Nat) (c : AV), cs[j]? = some c → ∃ u, vs[j]? = some u ∧ u.oneCell' = true ∧ Rep F w ι u c
theorem foldl_set (us : List Value) : ∀ (off k : Nat) (cs : Array Value), off + k + us.length ≤ cs.size →
    ((us.zipIdx k).foldl (fun cs (x : Value × Nat) => cs.setIfInBounds (off + x.2) x.1) cs).size = cs.size ∧ ∀ x, ((us.zipIdx k).foldl (fun cs (x : Value × Nat) => cs.setIfInBounds (off + x.2) x.1) cs)[x]? =
      if off + k ≤ x ∧ x < off + k + us.length then us[x - (off + k)]? else cs[x]? := by
  induction us with
  | nil =>
    intro off k cs _
    refine ⟨rfl, fun x => ?_⟩
    rw [if_neg (by intro h; simp at h <;> omega)]; rfl
  | cons u us ih =>
    intro off k cs hle
    simp only [List.zipIdx_cons, List.foldl_cons]
    obtain ⟨i1, i2⟩ := ih off (k + 1) (cs.setIfInBounds (off + k) u) (by simp at hle ⊢; omega)
    refine ⟨by rw [i1]; simp, fun x => ?_⟩
    rw [i2]
    by_cases hx : x = off + k
    · subst hx
      rw [if_neg (by omega), if_pos (by simp)]
      have : off + k < cs.size := by simp at hle; omega
      simp [this]
    · by_cases hin : off + (k + 1) ≤ x ∧ x < off + (k + 1) + us.length
      · rw [if_pos hin, if_pos (by simp; omega), show x - (off + k) = (x - (off + (k + 1))) + 1 by omega]; rfl
      · rw [if_neg hin, if_neg (by simp; omega)]
        simp [Ne.symm hx]
theorem fill_step {F : Nat → Nat → Prop} {w : World} {ι : Nat → Option Nat} {vs us : Array Value} {cs xs : List AV} {off : Nat} (h : RepCs F w ι vs cs) (hu : RepCs F w ι us xs) (hle : off + xs.length ≤ cs.length) :
    RepCs F w ι (us.zipIdx.foldl (fun cs (x : Value × Nat) => cs.setIfInBounds (off + x.2) x.1) vs) (splice cs off xs) ∧
      ∀ j, ¬ (off ≤ j ∧ j < off + xs.length) → (us.zipIdx.foldl (fun cs (x : Value × Nat) => cs.setIfInBounds (off + x.2) x.1) vs)[j]? = vs[j]? := by
  have e : us.zipIdx.foldl (fun cs (x : Value × Nat) => cs.setIfInBounds (off + x.2) x.1) vs = (us.toList.zipIdx 0).foldl (fun cs (x : Value × Nat) => cs.setIfInBounds (off + x.2) x.1) vs := by
    rw [← Array.foldl_toList]; simp
  rw [e]
  obtain ⟨h1, h2⟩ := h
  obtain ⟨u1, u2⟩ := hu
  obtain ⟨f1, f2⟩ := foldl_set us.toList off 0 vs (by simp; omega)
  have hlen : us.toList.length = xs.length := by simpa using u1
  refine ⟨⟨by rw [f1, h1, splice_len _ _ _ hle], fun j c hc => ?_⟩, fun j hj => by rw [f2, hlen]; simp only [Nat.add_zero]; rw [if_neg hj]⟩
  rw [splice_get _ _ _ hle] at hc
  rw [f2]
  rw [hlen]
  simp only [Nat.add_zero]
  by_cases hin : off ≤ j ∧ j < off + xs.length
  · rw [if_pos hin] at hc ⊢
    rw [Array.getElem?_toList]
    exact u2 _ _ hc
  · rw [if_neg hin] at hc ⊢
    exact h2 _ _ hc
theorem run_mapM {P : Program} {α β : Type} (f : α → Sem β) (r : α → β) (w : World) : ∀ l : List α, (∀ a, a ∈ l → (f a).run P w = .ok (r a) w) → (l.mapM f).run P w = .ok (l.map r) w
  | [], _ => by simp
  | a :: l, h => by
    simp only [List.mapM_cons, Sem.run_bind, h a (List.mem_cons_self ..), Result.andThen_ok, run_mapM f r w l (fun b hb => h b (List.mem_cons_of_mem _ hb)), Sem.run_pure, List.map_cons]
section
variable {E : Env} {P : Program} {T : Tab} {st : St} {o : Oper} {g : Bool} {k : AV → Option Nat → List Loc → Prop}
def fillE (T : Tab) (st : St) (g : Bool) (fs : Array Field) (cs : List AV) : List (Nat × Operand) → (List AV → Prop) → Prop
  | [], k => k cs
  | (i, x) :: ps, k => unc g (evV T st 0 x) fun a => optE fs[i]? fun f => optE (T.at f.type) fun fi =>
      (a.flatB = true ∧ a.cells.length = fi.size ∧ f.offset + fi.size ≤ cs.length) ∧ fillE T st g fs (splice cs f.offset a.cells) ps k
theorem Nat.ble_eq_false_iff' {a b : Nat} : Nat.ble a b = false ↔ ¬ a ≤ b := by rw [← Nat.ble_eq]; cases Nat.ble a b <;> simp
theorem Nat.blt_eq_false_iff' {a b : Nat} : Nat.blt a b = false ↔ ¬ a < b := by rw [← Nat.blt_eq]; cases Nat.blt a b <;> simp
def covB (T : Tab) (fs : Array Field) (j : Nat) (p : Nat × Operand) : Bool :=
  match fs[p.1]? with
  | some f => match T.at f.type with
    | some fi => Nat.ble f.offset j && Nat.blt j (f.offset + fi.size)
    | none => true
  | none => true
def bitsN : List Bool → Nat
  | [] => 0
  | b :: l => (bif b then 1 else 0) + 64 * bitsN l
theorem bitsN_dg : ∀ (l : List Bool) (j : Nat), dg (bitsN l) j = (bif l.getD j false then 1 else 0)
  | [], j => by simp [bitsN, dg]
  | b :: l, j => by
    unfold bitsN
    rw [dg_cons (by cases b <;> decide)]
    cases j with
    | zero => rfl
    | succ j => exact bitsN_dg l j
theorem bitsN_at (l : List Bool) (j : Nat) (h : dg (bitsN l) j = 1) : l[j]? = some true := by
  rw [bitsN_dg] at h
  rw [List.getD_eq_getElem?_getD] at h
  cases hl : l[j]? with
  | none => rw [hl] at h; cases h
  | some b => rw [hl] at h; cases b with
    | true => rfl
    | false => cases h
theorem bitsN_no (l : List Bool) (j t : Nat) : dg (bitsN l) j ≠ t + 2 := fun h => by
  rw [bitsN_dg] at h
  cases hb : l.getD j false with
  | true => rw [hb, cond_true] at h; omega
  | false => rw [hb, cond_false] at h; omega
def freeM (T : Tab) (fs : Array Field) (ps : List (Nat × Operand)) (n : Nat) : Nat := bitsN ((List.range n).map fun j => !(ps.any (covB T fs j)))
theorem freeM_at {T : Tab} {fs : Array Field} {ps : List (Nat × Operand)} {n j : Nat} (h : dg (freeM T fs ps n) j = 1) : ∀ p, p ∈ ps → covB T fs j p = false := fun p hp => by
  have := bitsN_at _ _ h
  rw [List.getElem?_map] at this
  cases hr : (List.range n)[j]? with
  | none => rw [hr] at this; cases this
  | some x =>
    have hx : x = j := by
      rw [List.getElem?_range (by have := (List.getElem?_eq_some_iff.1 hr).1; simpa using this)] at hr
      exact (Option.some.inj hr).symm
    rw [hr, hx] at this
    simp only [Option.map_some, Option.some.injEq, Bool.not_eq_true'] at this
    exact List.any_eq_false.1 this p hp |> fun h => by simpa using h
def okM (x : Nat) : Option Nat → Prop
  | none => True
  | some m => m = x
theorem okM.mk {m x : Nat} (h : m = x) : okM x (some m) := h
def arrF (fz : Field) (n : Nat) (et : TypeId) (sz : Nat) : Array Field := ((List.range n).map fun i => { fz with offset := i * sz, type := et }).toArray
def fz0 : Field := { name := "", type := 0, offset := 0, embedded := false, tag := "", pkgPath := "", byteOffset := 0 }
def evBuild (T : Tab) (st : St) (g : Bool) (ty : TypeId) (ps : List (Nat × Operand)) (k : AV → Option Nat → List Loc → Prop) : Prop :=
  match T.at ty with
  | none => False
  | some ti => match ti.desc, ti.zero with
    | .struct fs, .agg cs => fillE T st g fs cs ps fun cs' => ∃ tg, okM (freeM T fs ps cs.length) tg ∧ k (.agg cs') tg (ps.flatMap fun p => opN p.2)
    | .array n et, .agg cs => fillE T st g (arrF fz0 n et ti.esz) cs ps fun cs' => ∃ tg : Option Nat, tg = none ∧ k (.agg cs') tg (ps.flatMap fun p => opN p.2)
    | _, _ => False
theorem repz_nil {v : Value} {a : AV} (h : repz v a = true) : ∀ (j : Nat) (u : Value) (sz : Nat), v.cells[j]? = some u → a.cells[j]? = some (.list sz []) → u = .slice none 0 0 := by
  have one : ∀ (u : Value) (sz : Nat), rep1 u (.list sz []) = true → u = .slice none 0 0 := fun u sz h => by
    unfold rep1 at h
    split at h
    all_goals first | rfl | (exfalso; rename_i h1; cases h1; done) | (cases h; done)
  intro j u sz hu hc
  unfold repz at h
  split at h
  · rename_i vs cs
    simp only [Bool.and_eq_true, beq_iff_eq, List.all_eq_true] at h
    have hu' : vs.toList[j]? = some u := by simpa [Value.cells] using hu
    exact one u sz (h.2 (u, .list sz []) (List.mem_of_getElem? (i := j) (by rw [List.getElem?_zip_eq_some]; exact ⟨hu', hc⟩)))
  · unfold rep1 at h
    split at h
    case h_9 => cases h
    all_goals first
      | (cases j with
        | zero => simp [AV.cells] at hc
        | succ j => simp [AV.cells] at hc)
      | (cases j with
        | zero => simp [Value.cells] at hu; exact hu.symm
        | succ j => simp [AV.cells] at hc)
theorem fillE_ok {fs : Array Field} : ∀ (ps : List (Nat × Operand)) (cs : List AV) (k : List AV → Prop), fillE T st g fs cs ps k → ∃ cs', k cs' ∧ (∀ j, (∀ p, p ∈ ps → covB T fs j p = false) → cs'[j]? = cs[j]?) ∧
    (g = true → ∀ (B : Base) (G : Gh) (w : World) (a : Act), Good E B G w → (∀ p, p ∈ ps → cOk T 0 p.2 = true) → (∀ l, l ∈ ps.flatMap (fun p => opN p.2) → RepL G w a l st) →
      ∀ (vs : Array Value) (place : Nat → Option (Nat × Nat)), (∀ (i : Nat) (f : Field) (fi : TI), fs[i]? = some f → T.at f.type = some fi → place i = some (f.offset, fi.size)) → RepCs G.F w G.ι vs cs →
        ∃ vs', Instr.fill place vs (ps.map fun p => (p.1, a.eval p.2)) = some vs' ∧ RepCs G.F w G.ι vs' cs' ∧ ∀ j, (∀ p, p ∈ ps → covB T fs j p = false) → vs'[j]? = vs[j]?) := by
  intro ps
  induction ps with
  | nil => intro cs k h; exact ⟨cs, h, fun _ _ => rfl, fun _ B G w a _ _ _ vs place _ hr => ⟨vs, rfl, hr, fun _ _ => rfl⟩⟩
  | cons p ps ih =>
    intro cs k h
    obtain ⟨i, x⟩ := p
    unfold fillE at h
    obtain ⟨a', h, ha'⟩ := unc_ok h
    obtain ⟨f, hf, h⟩ := optE_ok h
    obtain ⟨fi, hfi, h⟩ := optE_ok h
    obtain ⟨⟨h1, h2, h3⟩, h⟩ := h
    obtain ⟨cs', hk, hsame, hcs'⟩ := ih _ _ h
    have hout : ∀ j, covB T fs j (i, x) = false → ¬ (f.offset ≤ j ∧ j < f.offset + a'.cells.length) := fun j hj => by
      unfold covB at hj
      simp only [hf, hfi, Bool.and_eq_false_iff, Nat.ble_eq_false_iff', Nat.blt_eq_false_iff'] at hj
      omega
    refine ⟨cs', hk, (fun j hj => by
      rw [hsame j fun p hp => hj p (List.mem_cons_of_mem _ hp), splice_get _ _ _ (by rw [h2]; exact h3), if_neg (hout j (hj _ (List.mem_cons_self ..)))]), fun hg B G w a hgd hc hN vs place hpl hr => ?_⟩
    have r1 := ha' hg _ _ _ _ (evV_ok (T := T) (ty := 0) hgd (hc (i, x) (List.mem_cons_self ..)) fun l hl => hN l (List.mem_flatMap.2 ⟨(i, x), List.mem_cons_self .., hl⟩)).1
    have r2 := rep_cells r1 h1
    have hplace := hpl i f fi hf hfi
    have hsz : ¬ ((a.eval x).cells.size ≠ fi.size ∨ f.offset + (a.eval x).cells.size > vs.size) := by
      rw [r2.1, h2, hr.1]; simp; omega
    obtain ⟨fs1, fs2⟩ := fill_step (off := f.offset) hr r2 (by rw [h2]; exact h3)
    obtain ⟨vs', e1, e2, e3⟩ := hcs' hg B G w a hgd (fun p hp => hc p (List.mem_cons_of_mem _ hp)) (fun l hl => hN l (by
      simp only [List.flatMap_cons, List.mem_append]; exact .inr hl)) _ place hpl fs1
    refine ⟨vs', ?_, e2, fun j hj => by rw [e3 j fun p hp => hj p (List.mem_cons_of_mem _ hp)]; exact fs2 j (hout j (hj _ (List.mem_cons_self ..)))⟩
    simp only [List.map_cons, Instr.fill, hplace]
    have hb : (decide ((a.eval x).cells.size ≠ fi.size) || decide (f.offset + (a.eval x).cells.size > vs.size)) = false := by
      simp only [not_or] at hsz
      simp only [Bool.or_eq_false_iff, decide_eq_false_iff_not]
      exact hsz
    simp only [hb, Bool.false_eq_true, if_false]
    exact e1
theorem evBuild_ok (hT : TOk P T) {ty : TypeId} {ps : Array (Nat × Operand)} (hc : constOk T o = true) (ho : o.op = .build ty ps) (h : evBuild T st g ty ps.toList k) : Yld E P st o g k := by
  unfold evBuild at h
  split at h
  · exact h.elim
  · rename_i ti hti
    have hf := hT _ _ hti
    have hu := hf.under
    split at h
    · rename_i fs cs hd hz
      rw [hd] at hu
      obtain ⟨cs', ⟨tgm, htm, h⟩, hnil, hfill⟩ := fillE_ok (E := E) _ _ _ h
      refine ⟨_, _, _, h, fun hg => .value fun B G w a hgd hN => ?_⟩
      have hzr := repz_ok hf.zero G.F w G.ι
      rw [hz] at hzr
      have hz0 : ∃ vs0, ti.zv = .agg vs0 ∧ RepCs G.F w G.ι vs0 cs := by
        generalize ti.zv = zv at hzr
        have h1 := rep_cells hzr rfl
        cases hzr with
        | agg _ vs _ hl ho hr => exact ⟨_, rfl, h1⟩
      obtain ⟨vs0, hv0, hr0⟩ := hz0
      -- the places of the fields
      have hpl : ∃ places, (fs.mapM fun f => do pure (f.offset, ← sizeOf f.type) : Sem (Array (Nat × Nat))).run P w = .ok places w ∧ ∀ (i : Nat) (f : Field) (fi : TI), fs[i]? = some f → T.at f.type = some fi → places[i]? = some (f.offset, fi.size) := by
        have hfl := hf.flds
        unfold fldOk at hfl
        rw [hd] at hfl
        simp only [List.all_eq_true] at hfl
        have hsome : ∀ f, f ∈ fs.toList → ∃ i, P.info? f.type = some i := fun f hm => by
          have := hfl f hm
          cases hh : P.info? f.type with
          | none => rw [hh] at this; cases this
          | some i => exact ⟨i, rfl⟩
        refine ⟨(fs.toList.map fun f => (f.offset, ((P.info? f.type).map (·.size)).getD 0)).toArray, ?_, fun i f fi hi hfi => ?_⟩
        · rw [Array.mapM_eq_mapM_toList]
          simp only [Sem.run_map]
          rw [run_mapM _ (fun f : Field => (f.offset, ((P.info? f.type).map (·.size)).getD 0)) w fs.toList (fun f hm => by
            obtain ⟨i, hi⟩ := hsome f hm
            simp [sizeOf, typeInfo, hi])]
          rfl
        · obtain ⟨j, hj, hjs, _⟩ := (hT _ _ hfi).info_some
          rw [← Array.getElem?_toList] at hi
          simp [hi, hj, hjs]
      obtain ⟨places, hp1, hp2⟩ := hpl
      obtain ⟨vs', e1, e2, e3⟩ := hfill hg B G w a hgd (fun p hp => constOk.at hc (by simp only [opcs, ho, List.mem_map]; exact ⟨p, hp, rfl⟩)) hN vs0 (fun i => places[i]?) hp2 hr0
      refine ⟨.agg vs', ?_, ?_, ?_⟩
      case refine_3 =>
        cases tgm with
        | none => trivial
        | some m =>
        have htm : m = freeM T fs ps.toList cs.length := htm
        refine .inr ⟨cs', rfl, fun j => ⟨fun sz hm hj => ?_, fun t c u hm => absurd (htm ▸ hm) (bitsN_no _ _ _)⟩⟩
        rw [htm] at hm
        have hfree := freeM_at hm
        rw [hnil j hfree] at hj
        have hz' := hf.zero
        rw [hz, hv0] at hz'
        obtain ⟨u, u1, _⟩ := hr0.2 j _ hj
        have := repz_nil hz' j u sz u1 hj
        show vs'[j]? = _
        rw [e3 j hfree, ← this]; exact u1
      · simp only [execOp, ho, Sem.run_bind, Instr.build, hf.run_zero, Result.andThen_ok, run_underlying hu, hp1, hv0, Value.cells]
        have hpm : (ps.map fun x => match x with | (i, x) => (i, a.eval x)).toList = ps.toList.map fun p => (p.1, a.eval p.2) := by simp
        rw [hpm]
        have e1' : Instr.fill (fun x => places[x]?) vs0 (ps.toList.map fun p => (p.1, a.eval p.2)) = some vs' := e1
        rw [e1']
        rfl
      · have := Rep.agg (F := G.F) (w := w) G.ι vs'.toList cs' (by simpa using e2.1) (fun v hv => by
          obtain ⟨j, hj, rfl⟩ := List.getElem_of_mem hv
          obtain ⟨u, u1, u2, _⟩ := e2.2 j _ (List.getElem?_eq_getElem (by have := e2.1; simp at hj; omega))
          have : vs'[j]? = some vs'.toList[j] := by rw [← Array.getElem?_toList]; exact List.getElem?_eq_getElem hj
          rw [this] at u1
          injection u1 with u1
          rw [u1]; exact u2) fun i v c hv hc => by
          obtain ⟨u, u1, _, u3⟩ := e2.2 i c hc
          rw [Array.getElem?_toList] at hv
          rw [hv] at u1
          injection u1 with u1
          rw [u1]; exact u3
        simpa using this
    · rename_i n et cs hd hz
      rw [hd] at hu
      obtain ⟨cs', ⟨tgm, htm, h⟩, hnil, hfill⟩ := fillE_ok (E := E) _ _ _ h
      refine ⟨_, _, _, h, fun hg => .value fun B G w a hgd hN => ?_⟩
      have hzr := repz_ok hf.zero G.F w G.ι
      rw [hz] at hzr
      have hz0 : ∃ vs0, ti.zv = .agg vs0 ∧ RepCs G.F w G.ι vs0 cs := by
        generalize ti.zv = zv at hzr
        have h1 := rep_cells hzr rfl
        cases hzr with
        | agg _ vs _ hl ho hr => exact ⟨_, rfl, h1⟩
      obtain ⟨vs0, hv0, hr0⟩ := hz0
      have hp2 : ∀ (i : Nat) (f : Field) (fi : TI), (arrF fz0 n et ti.esz)[i]? = some f → T.at f.type = some fi → some (i * ti.esz, ti.esz) = some (f.offset, fi.size) := fun i f fi hi hfi => by
        unfold arrF at hi
        rw [← Array.getElem?_toList] at hi
        simp only [List.getElem?_map] at hi
        cases hr : (List.range n)[i]? with
        | none => rw [hr] at hi; cases hi
        | some x =>
          have hx : x = i := by
            rw [List.getElem?_range (by have := (List.getElem?_eq_some_iff.1 hr).1; simpa using this)] at hr
            exact (Option.some.inj hr).symm
          rw [hr] at hi
          injection hi with hi
          subst hi
          obtain ⟨j, hj, hjs, _⟩ := (hT _ _ hfi).info_some
          obtain ⟨i0, z, hi0, hs0, _⟩ := hf.elem_info (.inr ⟨n, hd⟩)
          have hj' : P.info? et = some j := hj
          rw [hi0] at hj'
          injection hj' with hj'
          subst hj'
          rw [hx]
          show some (i * ti.esz, ti.esz) = some (i * ti.esz, fi.size)
          rw [← hs0, hjs]
      obtain ⟨vs', e1, e2, e3⟩ := hfill hg B G w a hgd (fun p hp => constOk.at hc (by simp only [opcs, ho, List.mem_map]; exact ⟨p, hp, rfl⟩)) hN vs0 (fun i => some (i * ti.esz, ti.esz)) hp2 hr0
      subst htm
      refine ⟨.agg vs', ?_, ?_, trivial⟩
      · simp only [execOp, ho, Sem.run_bind, Instr.build, hf.run_zero, Result.andThen_ok, run_underlying hu, hf.run_esz _ (.inr ⟨n, hd⟩), hv0, Value.cells]
        have hpm : (ps.map fun x => match x with | (i, x) => (i, a.eval x)).toList = ps.toList.map fun p => (p.1, a.eval p.2) := by simp
        rw [hpm]
        have e1' : Instr.fill (fun i => some (i * ti.esz, ti.esz)) vs0 (ps.toList.map fun p => (p.1, a.eval p.2)) = some vs' := e1
        rw [e1']
        rfl
      · have := Rep.agg (F := G.F) (w := w) G.ι vs'.toList cs' (by simpa using e2.1) (fun v hv => by
          obtain ⟨j, hj, rfl⟩ := List.getElem_of_mem hv
          obtain ⟨u, u1, u2, _⟩ := e2.2 j _ (List.getElem?_eq_getElem (by have := e2.1; simp at hj; omega))
          have : vs'[j]? = some vs'.toList[j] := by rw [← Array.getElem?_toList]; exact List.getElem?_eq_getElem hj
          rw [this] at u1
          injection u1 with u1
          rw [u1]; exact u2) fun i v c hv hc => by
          obtain ⟨u, u1, _, u3⟩ := e2.2 i c hc
          rw [Array.getElem?_toList] at hv
          rw [hv] at u1
          injection u1 with u1
          rw [u1]; exact u3
        simpa using this
    · exact h.elim
abbrev KH := AV → Option Nat → List AObj → List Nat → List Loc → List Loc → Prop
def YldH (E : Env) (P : Program) (st : St) (o : Oper) (k : KH) : Prop := ∃ r tag H kk N W, k r tag H kk N W ∧ HFact E P st o r tag H kk N W
theorem app_same {α : Type} (l : List α) (x : α) {i : Nat} (h : i ≠ l.length) : l[i]? = (l ++ [x])[i]? := by
  rcases Nat.lt_or_ge i l.length with h1 | h1
  · rw [List.getElem?_append_left h1]
  · rw [List.getElem?_eq_none h1, List.getElem?_eq_none (by simp; omega)]
theorem HFact.newObj {t : TypeId} {cs : List AV} {tg : List (Nat × Nat)} {r : AV} {N : List Loc}
    (h : ∀ (B : Base) (G : Gh) (w : World) (a : Act), Good E B G w → (∀ l, l ∈ N → RepL G w a l st) → ∃ v vals fz w', (execOp a.eval o).run P w = .ok (.value v) w' ∧ Grown1 w w' (.cells vals t fz) ∧
      (∀ i, i < vals.size → ¬ inFz fz i) ∧ cs.length ≤ vals.size ∧ (∀ (j : Nat) (c : AV), cs[j]? = some c → ∃ u, vals[j]? = some u ∧ u.oneCell' = true ∧ RepSlot G w u c (tg.lookup j)) ∧
      ∀ (F : Nat → Nat → Prop) (w2 : World) (ι : Nat → Option Nat), ι st.H.length = some w.heap.size → Rep F w2 ι v r) :
    HFact E P st o r none (st.H ++ [.cells t cs tg]) st.k (N ++ [.obj st.H.length]) [.obj st.H.length] := by
  refine ⟨by simp, fun l hl => ?_, fun B G w a hg hN K Q hK => ?_⟩
  · cases l with
    | slot => trivial
    | obj i => exact app_same _ _ (fun e => hl (by simp [e]))
    | tok i => rfl
  · obtain ⟨v, vals, fz, w', hrun, hgr, hfz, hl, hr, hv⟩ := h B G w a hg (fun l hl => hN l (List.mem_append_left _ hl))
    have hid : G.ι st.H.length = none := by
      have := hN (.obj st.H.length) (by simp)
      simp only [RepL] at this
      rw [List.getElem?_eq_none (Nat.le_refl _)] at this
      exact this
    obtain ⟨g1, g2, g3, g4⟩ := new_obj hg hid hgr hfz hl hr
    unfold Oper.wp
    rw [hrun]
    refine hK _ _ _ g1 g2 ⟨hv _ _ _ g4, trivial⟩ fun l hl => ?_
    simp only [List.mem_singleton] at hl
    subst hl
    simp only [RepH]
    rw [List.getElem?_append_right (Nat.le_refl _)]
    simpa using g3
theorem HFact.newRow {sz tk : Nat} (htk : tk = 1 ∨ tk = 2) (hsp : 0 < sz) {xs : List AV} {N : List Loc} (hsz : ∀ e, e ∈ xs → e.cells.length = sz)
    (h : ∀ (B : Base) (G : Gh) (w : World) (a : Act), Good E B G w → (∀ l, l ∈ N → RepL G w a l st) → ∃ vals t fz cap w', (execOp a.eval o).run P w = .ok (.value (.slice (some ⟨w.heap.size, 0, none⟩) xs.length cap)) w' ∧ Grown1 w w' (.cells vals t fz) ∧
      (∀ i, i < vals.size → ¬ inFz fz i) ∧ xs.length ≤ cap ∧ cap ≤ maxLen ∧ cap * sz ≤ vals.size ∧ (tk = 2 → cap = xs.length) ∧
      (∀ (i : Nat) (e : AV) (j : Nat) (c : AV), xs[i]? = some e → e.cells[j]? = some c → ∃ v, vals[i * sz + j]? = some v ∧ v.oneCell' = true ∧ Rep G.F w (fun _ => none) v c)) :
    HFact E P st o (.list sz xs) (some st.k.length) st.H (st.k ++ [tk]) (N ++ [.tok st.k.length]) [.tok st.k.length] := by
  refine ⟨by simp, fun l hl => ?_, fun B G w a hg hN K Q hK => ?_⟩
  · cases l with
    | slot => trivial
    | obj i => rfl
    | tok i => exact app_same _ _ (fun e => hl (by simp [e]))
  · obtain ⟨vals, t, fz, cap, w', hrun, hgr, hfz, hcap, hm, hl, htt, hr⟩ := h B G w a hg (fun l hl => hN l (List.mem_append_left _ hl))
    have hid : G.κ st.k.length = none := by
      have := hN (.tok st.k.length) (by simp)
      simp only [RepL] at this
      rw [List.getElem?_eq_none (Nat.le_refl _)] at this
      exact this
    obtain ⟨g1, g2, g3, g3', g4⟩ := new_row hg hid hgr hfz hsp hcap hm hl hsz hr
    unfold Oper.wp
    rw [hrun]
    refine hK _ _ _ g1 g2 g4 fun l hl => ?_
    simp only [List.mem_singleton] at hl
    subst hl
    simp only [RepH]
    rw [List.getElem?_append_right (Nat.le_refl _)]
    simp only [Nat.sub_self, List.getElem?_cons_zero]
    rcases htk with rfl | rfl
    · exact g3
    · exact g3' (htt rfl)
theorem HFact.newTok {sz : Nat} {xs : List AV} {N : List Loc}
    (h : ∀ (B : Base) (G : Gh) (w : World) (a : Act), Good E B G w → (∀ l, l ∈ N → RepL G w a l st) → ∃ ad, (execOp a.eval o).run P w = .ok (.value (.slice ad xs.length xs.length)) w ∧ Rep G.F w G.ι (.slice ad xs.length xs.length) (.list sz xs)) :
    HFact E P st o (.list sz xs) (some st.k.length) st.H (st.k ++ [2]) (N ++ [.tok st.k.length]) [.tok st.k.length] := by
  refine ⟨by simp, fun l hl => ?_, fun B G w a hg hN K Q hK => ?_⟩
  · cases l with
    | slot => trivial
    | obj i => rfl
    | tok i => exact app_same _ _ (fun e => hl (by simp [e]))
  · obtain ⟨ad, hrun, hr⟩ := h B G w a hg (fun l hl => hN l (List.mem_append_left _ hl))
    have hid : G.κ st.k.length = none := by
      have := hN (.tok st.k.length) (by simp)
      simp only [RepL] at this
      rw [List.getElem?_eq_none (Nat.le_refl _)] at this
      exact this
    have hle : xs.length ≤ maxLen := by
      have := hr.wf
      cases this; assumption
    unfold Oper.wp
    rw [hrun]
    have hx : Ext G w { G with κ := setI G.κ st.k.length (0, 0, 0) } w := ⟨fun _ _ h => h, fun _ _ h => h, fun i r hi => by
      have : i ≠ st.k.length := fun e => by rw [e, hid] at hi; cases hi
      show setI _ _ _ i = _
      rw [setI_other _ _ this]; exact hi, fun _ _ _ => rfl, fun _ _ h => h⟩
    refine hK { G with κ := setI G.κ st.k.length (0, 0, 0) } w _ ⟨hg.fin, hg.own, hg.size, hg.old, hg.keep, hg.new, hg.os, hg.tape, hg.output, hg.glob, hg.gb, hg.ids, fun i r hi => ⟨(hg.toks i r hi).1, hx.κ _ _ (hg.toks i r hi).2⟩, hg.grow⟩ ⟨hx, fun i c _ hc => hc.keep hx (fun h => h) (fun g h => ⟨h, rfl, fun _ h => h⟩), fun i c hi hc => hc.keep hx (fun hn => ?_) (fun g h => ⟨h, rfl, fun _ h => h⟩)⟩ ⟨hr, ?_⟩ fun l hl => ?_
    · have : i ≠ st.k.length := fun e => hi (by simp [e])
      show setI _ _ _ i = _
      rw [setI_other _ _ this]; exact hn
    · exact .inl ⟨sz, xs, xs.length, xs.length, 0, 0, 0, ad, rfl, rfl, setI_same .., rfl, Nat.le_refl _, hle, .inl rfl⟩
    · simp only [List.mem_singleton] at hl
      subst hl
      simp only [RepH]
      rw [List.getElem?_append_right (Nat.le_refl _)]
      simp only [Nat.sub_self, List.getElem?_cons_zero]
      exact ⟨0, 0, setI_same ..⟩
end
end Go.Pm
