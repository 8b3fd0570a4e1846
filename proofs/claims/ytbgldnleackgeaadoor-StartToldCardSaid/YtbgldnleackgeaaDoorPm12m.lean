/-
  Generic: maps of the call's own: made, written, looked up.
-/
import Derived.Test.YtbgldnleackgeaaDoorPm12r
namespace Go.Pm
open Go Go.RowKit
set_option linter.unusedSimpArgs false

section
variable {E : Env} {B : Base} {G : Gh} {w w' : World}

/-- A new map of the call's own. -/
theorem new_map (h : Good E B G w) {id : Nat} (hid : G.ι id = none) (hw : Grown1 w w' (.map #[] 0)) :
    let G1 : Gh := { G with ι := setI G.ι id w.heap.size, O := setI G.O w.heap.size (.inl id) }
    Good E B G1 w' ∧ FrH G w G1 w' [.obj id] ∧ RepObj G1 w' id (some (.mp [])) ∧ G1.ι id = some w.heap.size := by
  intro G1
  have hne : ∀ b i, G.O b = some i → b ≠ w.heap.size := fun b i hi => Nat.ne_of_lt (h.own b i hi).1
  have hx : Ext G w G1 w' := ⟨fun _ _ x => x, fun i g hi => by
    have : i ≠ id := fun e => by rw [e, hid] at hi; cases hi
    show setI G.ι id w.heap.size i = some g
    rw [setI_other _ _ this]; exact hi, fun _ _ x => x, fun b o hb => cell_congr (hw.old b (h.fin b o hb))⟩
  refine ⟨h.step (by rw [hw.size]; omega) (fun b hb _ => hw.old b hb) (fun b o hb => hx.w b o hb) (fun _ _ x => x) (fun b o hb => ⟨by rw [hw.size]; have := h.fin b o hb; omega, .inl hb⟩) (fun b i hi => ?_) hw.os hw.tape hw.output hx, ⟨hx, fun i c hi hc => ?_, fun i c _ hc => ?_⟩, ?_, setI_same ..⟩
  · by_cases hb : b = w.heap.size
    · subst hb; exact ⟨by rw [hw.size]; omega, .inl (Nat.le_refl _)⟩
    · have hi' : G.O b = some i := by rw [← hi]; exact (setI_other _ _ hb).symm
      exact ⟨by rw [hw.size]; have := (h.own b i hi').1; omega, .inr (by rw [hi']; simp)⟩
  · have hne' : i ≠ id := fun e => hi (by simp [e])
    refine hc.keep hx (fun hn => by show setI _ _ _ i = none; rw [setI_other _ _ hne']; exact hn) fun g hg => ⟨?_, hw.old g (h.own g _ hg).1, fun _ x => x⟩
    show setI _ _ _ g = _
    rw [setI_other _ _ (hne g _ hg)]; exact hg
  · refine hc.keep hx (fun x => x) fun g hg => ⟨?_, hw.old g (h.own g _ hg).1, fun _ x => x⟩
    show setI _ _ _ g = _
    rw [setI_other _ _ (hne g _ hg)]; exact hg
  · exact ⟨w.heap.size, setI_same .., setI_same .., fun x hx' => absurd (h.fin _ _ hx') (Nat.lt_irrefl _), #[], 0, hw.new, rfl, fun i e p he => by simp at he⟩

/-- A map of the call's own, written. -/
theorem write_map (h : Good E B G w) {id g : Nat} (hid : G.ι id = some g) {es es' : List (AV × AV)} (hobj : RepObj G w id (some (.mp es))) (hsz : w'.heap.size = w.heap.size) (hold : ∀ b, b ≠ g → w'.heap[b]? = w.heap[b]?)
    (hos : w'.os = w.os) (htape : w'.tape = w.tape) (hout : w'.output = w.output) (hm : (∀ b o, G.F b o → w'.cell? ⟨b, o, none⟩ = w.cell? ⟨b, o, none⟩) → MapAt G.F w' g es') :
    Good E B G w' ∧ FrH G w G w' [.obj id] ∧ RepObj G w' id (some (.mp es')) := by
  obtain ⟨g', i1, i2, i3, i4⟩ := hobj
  rw [hid] at i1
  injection i1 with i1
  subst i1
  have hcell : ∀ b o, G.F b o → w'.cell? ⟨b, o, none⟩ = w.cell? ⟨b, o, none⟩ := fun b o hb => cell_congr (hold b (fun e => i3 o (e ▸ hb)))
  have hx : Ext G w G w' := ⟨fun _ _ x => x, fun _ _ x => x, fun _ _ x => x, hcell⟩
  refine ⟨h.step (by rw [hsz]; exact Nat.le_refl _) (fun b _ hn => hold b (fun e => by rw [e, i2] at hn; cases hn)) hcell (fun _ _ x => x) (fun b o hb => ⟨by rw [hsz]; exact h.fin b o hb, .inl hb⟩) (fun b i hi => ⟨by rw [hsz]; exact (h.own b i hi).1, .inr (by rw [hi]; simp)⟩) hos htape hout hx, ⟨hx, fun i c hi hc => ?_, fun i c _ hc => ?_⟩, ⟨g, hid, i2, i3, hm hcell⟩⟩
  · refine hc.keep hx (fun x => x) fun g2 hg2 => ⟨hg2, hold g2 (fun e => ?_), fun _ x => x⟩
    rw [e, i2] at hg2
    injection hg2 with hg2
    injection hg2 with hg2
    exact hi (by simp [hg2])
  · refine hc.keep hx (fun x => x) fun g2 hg2 => ⟨hg2, hold g2 (fun e => ?_), fun _ x => x⟩
    rw [e, i2] at hg2
    injection hg2 with hg2
    cases hg2
end

/-! ### Keys -/
def keyB : AV → AV → Bool → Prop
  | .int k a, .int k' c, b => k = k' ∧ b = (a == c)
  | .str s, .str t, b => b = (s == t)
  | _, _, _ => False
def lookE (z : AV) : List (AV × AV) → AV → AV → Bool → Prop
  | [], _, r, f => r = z ∧ f = false
  | (k0, v0) :: es, k, r, f => ∃ b, keyB k k0 b ∧ (b = true → r = v0 ∧ f = true) ∧ (b = false → lookE z es k r f)
def insE : List (AV × AV) → AV → AV → List (AV × AV) → Prop
  | [], k, v, es' => es' = [(k, v)]
  | (k0, v0) :: es, k, v, es' => ∃ b, keyB k k0 b ∧ (b = true → es' = (k0, v) :: es) ∧ (b = false → ∃ es1, insE es k v es1 ∧ es' = (k0, v0) :: es1)
def keyD : TypeDesc → AV → Bool
  | .int k, .int k' _ => k == k'
  | .string, .str _ => true
  | _, _ => false

theorem keyD_is {F : Nat → Nat → Prop} {w : World} {ι : Nat → Option Nat} {d : TypeDesc} {a : AV} {v : Value} (hd : keyD d a = true) (h : Rep F w ι v a) : MapKept.IsKey d v := by
  unfold keyD at hd
  split at hd
  · cases h with | int _ k n h => exact (eq_of_beq hd).symm
  · cases h with | str _ s h => trivial
  · cases hd
theorem same_key {F F' : Nat → Nat → Prop} {w w' : World} {ι ι' : Nat → Option Nat} {d : TypeDesc} {a a0 : AV} {v v0 : Value} {b : Bool} (hd : keyD d a = true) (h : Rep F w ι v a) (h0 : Rep F' w' ι' v0 a0) (hb : keyB a a0 b) :
    Instr.sameNow d v v0 = some b ∧ (b = true → v0 = v ∧ a0 = a) := by
  unfold keyD at hd
  split at hd
  · rename_i k k' n
    have hk := eq_of_beq hd
    subst hk
    cases a0 <;> first | exact hb.elim | skip
    rename_i k0 n0
    obtain ⟨rfl, rfl⟩ := hb
    cases h
    cases h0
    refine ⟨by simp [Instr.sameNow], fun h => ?_⟩
    rw [eq_of_beq h]; exact ⟨rfl, rfl⟩
  · rename_i s
    cases a0 <;> first | exact hb.elim | skip
    rename_i t
    have hb : b = (s == t) := hb
    subst hb
    cases h
    cases h0
    refine ⟨?_, fun h => by rw [eq_of_beq h]; exact ⟨rfl, rfl⟩⟩
    show some ((⟨s.toArray⟩ : ByteArray) == ⟨t.toArray⟩) = some (s == t)
    refine congrArg some ?_
    rw [Bool.eq_iff_iff, MapKept.bytes_beq]
    constructor
    · intro h
      injection h with h
      have : s = t := by simpa using congrArg Array.toList h
      rw [this]; simp
    · intro h; rw [eq_of_beq h]
  · cases hd

section
variable {F : Nat → Nat → Prop} {w : World} {ι : Nat → Option Nat} {d : TypeDesc} {a : AV} {kv : Value}
theorem find_map (hd : keyD d a = true) (h : Rep F w ι kv a) {z r : AV} {f : Bool} : ∀ (es : List (AV × AV)) (L : List MapEntry) (i0 : Nat), L.length = es.length →
    (∀ (i : Nat) (e : MapEntry) (p : AV × AV), L[i]? = some e → es[i]? = some p → Rep F w (fun _ => none) e.key p.1 ∧ Rep F w (fun _ => none) e.val p.2) → lookE z es a r f →
    (f = false ∧ r = z ∧ Instr.findNow d kv L i0 = some none) ∨ (f = true ∧ ∃ j v, Instr.findNow d kv L i0 = some (some (j, v)) ∧ Rep F w (fun _ => none) v r)
  | [], [], i0, _, _, hl => .inl ⟨hl.2, hl.1, rfl⟩
  | [], _ :: _, _, hn, _, _ => by simp at hn
  | _ :: _, [], _, hn, _, _ => by simp at hn
  | (k0, v0) :: es, e :: L, i0, hn, hr, hl => by
    obtain ⟨b, hb, h1, h2⟩ := hl
    obtain ⟨r0, r1⟩ := hr 0 e (k0, v0) rfl rfl
    obtain ⟨hs, _⟩ := same_key hd h r0 hb
    cases b with
    | true =>
      obtain ⟨rfl, rfl⟩ := h1 rfl
      exact .inr ⟨rfl, i0, e.val, by simp [Instr.findNow, hs], r1⟩
    | false =>
      have := find_map hd h es L (i0 + 1) (by simpa using hn) (fun i e p he hp => hr (i + 1) e p (by simpa using he) (by simpa using hp)) (h2 rfl)
      have hf : Instr.findNow d kv (e :: L) i0 = Instr.findNow d kv L (i0 + 1) := by simp [Instr.findNow, hs]
      rw [hf]; exact this
theorem ins_map (hd : keyD d a = true) (h : Rep F w ι kv a) {va : AV} : ∀ (es es' : List (AV × AV)) (L : List MapEntry) (i0 : Nat), L.length = es.length →
    (∀ (i : Nat) (e : MapEntry) (p : AV × AV), L[i]? = some e → es[i]? = some p → Rep F w (fun _ => none) e.key p.1 ∧ Rep F w (fun _ => none) e.val p.2) → insE es a va es' →
    (Instr.findNow d kv L i0 = some none ∧ es' = es ++ [(a, va)]) ∨ (∃ j e, Instr.findNow d kv L i0 = some (some (i0 + j, e.val)) ∧ L[j]? = some e ∧ e.key = kv ∧ es' = es.set j (a, va))
  | [], es', [], i0, _, _, hl => .inl ⟨rfl, hl⟩
  | [], _, _ :: _, _, hn, _, _ => by simp at hn
  | _ :: _, _, [], _, hn, _, _ => by simp at hn
  | (k0, v0) :: es, es', e :: L, i0, hn, hr, hl => by
    obtain ⟨b, hb, h1, h2⟩ := hl
    obtain ⟨r0, r1⟩ := hr 0 e (k0, v0) rfl rfl
    obtain ⟨hs, he⟩ := same_key hd h r0 hb
    cases b with
    | true =>
      obtain ⟨e1, e2⟩ := he rfl
      refine .inr ⟨0, e, by simp [Instr.findNow, hs], rfl, e1, ?_⟩
      rw [h1 rfl]
      have e2 : k0 = a := e2
      rw [e2]; rfl
    | false =>
      obtain ⟨es1, h3, rfl⟩ := h2 rfl
      have hf : Instr.findNow d kv (e :: L) i0 = Instr.findNow d kv L (i0 + 1) := by simp [Instr.findNow, hs]
      rcases ins_map hd h es es1 L (i0 + 1) (by simpa using hn) (fun i e p he hp => hr (i + 1) e p (by simpa using he) (by simpa using hp)) h3 with ⟨h4, rfl⟩ | ⟨j, e', h4, h5, h6, rfl⟩
      · exact .inl ⟨by rw [hf]; exact h4, rfl⟩
      · exact .inr ⟨j + 1, e', by rw [hf, h4, Nat.add_assoc, Nat.add_comm 1 j], by simpa using h5, h6, rfl⟩
end

theorem puL_pu {a : AV} (hf : a.flatB = true) (h : a.puL = true) : Pu a := by
  unfold AV.puL at h
  cases a with
  | agg cs => exact .agg _ fun c hc => AV.puB_ok (List.all_eq_true.1 h c hc)
  | _ => first | exact AV.puB_ok (List.all_eq_true.1 h _ (List.mem_singleton.2 rfl)) | (simp [AV.flatB, AV.one] at hf)

section
variable {E : Env} {P : Program} {T : Tab} {st : St} {o : Oper}

def evMakeMap (st : St) (k : KH) : Prop := k (.mapv st.H.length) none (st.H ++ [.mp []]) st.k [.obj st.H.length] [.obj st.H.length]
theorem evMakeMap_ok {k : KH} {ty : TypeId} (ho : o.op = .makeMap ty none) (h : evMakeMap st k) : YldH E P st o k := by
  unfold evMakeMap at h
  refine ⟨_, _, _, _, _, _, h, ⟨by simp, fun l hl => ?_, fun B G w a hg hN K Q hK => ?_⟩⟩
  · cases l with
    | slot => trivial
    | obj i => exact app_same _ _ (fun e => hl (by simp [e]))
    | tok i => rfl
  · have hid : G.ι st.H.length = none := by
      have := hN (.obj st.H.length) (by simp)
      simp only [RepL] at this
      rw [List.getElem?_eq_none (Nat.le_refl _)] at this
      exact this
    obtain ⟨g1, g2, g3, g4⟩ := new_map hg hid (grown1_alloc w (.map #[] 0))
    have hrun : (execOp a.eval o).run P w = .ok (.value (.map (some w.heap.size))) (w.alloc (.map #[] 0)) := by
      simp [execOp, ho, Instr.makeMap]
    unfold Oper.wp
    rw [hrun]
    refine hK _ _ _ g1 g2 ⟨.mapv _ _ _ g4, trivial⟩ fun l hl => ?_
    simp only [List.mem_singleton] at hl
    subst hl
    simp only [RepH]
    rw [List.getElem?_append_right (Nat.le_refl _), Nat.sub_self]
    exact g3

def evInsert (T : Tab) (st : St) (ty : TypeId) (m i x : Operand) (k : KH) : Prop :=
  unc true (evV T st 0 m) fun a => unc true (evV T st 0 i) fun ka => unc true (evV T st 0 x) fun va => match T.at ty, a with
    | some ti, .mapv id => match ti.desc with
      | .map kt _ => optE (T.at kt) fun ki => optE st.H[id]? fun ob => match ob with
        | .mp es => (keyD ki.desc ka = true ∧ va.flatB = true ∧ va.puL = true) ∧ ∃ es', insE es ka va es' ∧ k .any none (st.H.set id (.mp es')) st.k (opN m ++ (opN i ++ opN x) ++ [.obj id]) [.obj id]
        | _ => False
      | _ => False
    | _, _ => False
theorem evInsert_ok (hT : TOk P T) {k : KH} {ty : TypeId} {m i x : Operand} (hc : constOk T o = true) (ho : o.op = .insert ty m i x ∨ o.op = .mapUpdate ty m i x) (h : evInsert T st ty m i x k) : YldH E P st o k := by
  unfold evInsert at h
  obtain ⟨a', h, ha'⟩ := unc_ok h
  obtain ⟨ka, h, hka⟩ := unc_ok h
  obtain ⟨va, h, hva⟩ := unc_ok h
  have hcs : cOk T 0 m = true ∧ cOk T 0 i = true ∧ cOk T 0 x = true := by
    rcases ho with ho | ho <;> exact ⟨constOk.at hc (by simp [opcs, ho]), constOk.at hc (by simp [opcs, ho]), constOk.at hc (by simp [opcs, ho])⟩
  split at h
  · rename_i ti id hti _ _
    have hf := hT _ _ hti
    have hu := hf.under
    split at h
    · rename_i kt et hd
      rw [hd] at hu
      obtain ⟨ki, hki, h⟩ := optE_ok h
      have huk := (hT _ _ hki).under
      obtain ⟨ob, hob, h⟩ := optE_ok h
      split at h
      · rename_i es
        obtain ⟨⟨h1, h2, h3⟩, es', hes, h⟩ := h
        refine ⟨_, _, _, _, _, _, h, ⟨by simp, fun l hl => ?_, fun B G w a hg hN K Q hK => ?_⟩⟩
        · cases l with
          | slot => trivial
          | obj i => exact set_same _ _ _ _ (fun e => hl (by simp [e]))
          | tok i => rfl
        · have r1 := ha' rfl _ _ _ _ (evV_ok (T := T) hg hcs.1 fun l hl => hN l (by simp [hl])).1
          have r2 := hka rfl _ _ _ _ (evV_ok (T := T) hg hcs.2.1 fun l hl => hN l (by simp [hl])).1
          have r3 := (hva rfl _ _ _ _ (evV_ok (T := T) hg hcs.2.2 fun l hl => hN l (by simp [hl])).1).pure (puL_pu h2 h3) (fun _ => none)
          have r2' := r2.pure (show Pu ka by
            unfold keyD at h1
            split at h1
            · exact .int ..
            · exact .str _
            · cases h1) (fun _ => none)
          have hobj : RepObj G w id (some (.mp es)) := by
            have := hN (.obj id) (by simp)
            simpa only [RepL, hob] using this
          generalize hvm : a.eval m = vm at *
          generalize hvk : a.eval i = vk at *
          generalize hvx : a.eval x = vx at *
          cases r1 with
          | mapv _ _ g hι =>
          have hobj' := hobj
          obtain ⟨g', i1, i2, i3, arr, clock, m1, m2, m3⟩ := hobj'
          rw [hι] at i1
          injection i1 with i1
          subst i1
          have hik := keyD_is h1 r2
          obtain ⟨arr', clock', hrun, hat⟩ : ∃ arr' clock', (Instr.mapUpdate ty (.map (some g)) vk vx).run P w = .ok () { w with heap := w.heap.setIfInBounds g (.map arr' clock') } ∧
              (∀ w' : World, (∀ b o, G.F b o → w'.cell? ⟨b, o, none⟩ = w.cell? ⟨b, o, none⟩) → w'.heap[g]? = some (.map arr' clock') → MapAt G.F w' g es') := by
            rcases ins_map h1 r2 es es' arr.toList 0 (by simpa using m2) (fun i e p he hp => m3 i e p (by simpa using he) hp) hes with ⟨k1, rfl⟩ | ⟨j, e, k1, k2, k3, rfl⟩
            · refine ⟨_, _, by simp [Instr.mapUpdate, run_underlying hu, MapKept.run_getObj_map m1, MapKept.run_checkKey huk hik, MapKept.run_findKey huk k1, MapKept.run_setObj_map _ m1, Result.andThen]; rfl, fun w' hw' hg' => ⟨_, _, hg', by simp [m2], fun n e p he hp => ?_⟩⟩
              rcases Nat.lt_or_ge n arr.size with hn | hn
              · rw [Array.getElem?_push_lt hn, ← Array.getElem?_eq_getElem hn] at he
                rw [List.getElem?_append_left (by omega)] at hp
                obtain ⟨q1, q2⟩ := m3 n e p he hp
                exact ⟨q1.mono (fun _ _ h => h) hw' _ fun _ _ h => h, q2.mono (fun _ _ h => h) hw' _ fun _ _ h => h⟩
              · have hn' : n = arr.size := by
                  have := (Array.getElem?_eq_some_iff.1 he).1
                  simp at this; omega
                subst hn'
                rw [Array.getElem?_push_size] at he
                rw [m2, List.getElem?_append_right (Nat.le_refl _), Nat.sub_self] at hp
                injection he with he
                injection hp with hp
                subst he hp
                exact ⟨r2'.mono (fun _ _ h => h) hw' _ fun _ _ h => h, r3.mono (fun _ _ h => h) hw' _ fun _ _ h => h⟩
            · rw [Nat.zero_add] at k1
              have hj : arr[j]? = some e := by simpa using k2
              refine ⟨_, _, by simp [Instr.mapUpdate, run_underlying hu, MapKept.run_getObj_map m1, MapKept.run_checkKey huk hik, MapKept.run_findKey huk k1, hj, k3, MapKept.run_keyThatStays hik, MapKept.run_setObj_map _ m1, Result.andThen]; rfl, fun w' hw' hg' => ⟨_, _, hg', by simp [m2], fun n e' p he hp => ?_⟩⟩
              rw [Array.getElem?_modify] at he
              by_cases hjn : j = n
              · subst hjn
                rw [if_pos rfl, hj] at he
                rw [List.getElem?_set_self (by have := (Array.getElem?_eq_some_iff.1 hj).1; omega)] at hp
                injection hp with hp
                simp only [Option.map_some, Option.some.injEq] at he
                subst he hp
                exact ⟨r2'.mono (fun _ _ h => h) hw' _ fun _ _ h => h, r3.mono (fun _ _ h => h) hw' _ fun _ _ h => h⟩
              · rw [if_neg hjn] at he
                rw [List.getElem?_set_ne hjn] at hp
                obtain ⟨q1, q2⟩ := m3 n e' p he hp
                exact ⟨q1.mono (fun _ _ h => h) hw' _ fun _ _ h => h, q2.mono (fun _ _ h => h) hw' _ fun _ _ h => h⟩
          have hset := MapKept.heap_set (w := w) (r := g) (o' := .map arr' clock') m1
          obtain ⟨w1, w2, w3⟩ := write_map (w' := { w with heap := w.heap.setIfInBounds g (.map arr' clock') }) (es' := es') hg hι hobj (by simp) (fun b hb => hset.2 b hb) rfl rfl rfl (fun hcell => hat _ hcell hset.1)
          have hexec : (execOp a.eval o).run P w = .ok .skip { w with heap := w.heap.setIfInBounds g (.map arr' clock') } := by
            rcases ho with ho | ho <;> simp only [execOp, ho, Sem.run_bind, hvm, hvk, hvx, hrun, Result.andThen_ok, Sem.run_pure]
          unfold Oper.wp
          rw [hexec]
          refine hK G _ undef w1 w2 ⟨.any .., trivial⟩ fun l hl => ?_
          simp only [List.mem_singleton] at hl
          subst hl
          simp only [RepH]
          rw [List.getElem?_set_self (List.getElem?_eq_some_iff.1 hob).1]
          exact w3
      · exact h.elim
    · exact h.elim
  · exact h.elim

def evLookup (T : Tab) (st : St) (g : Bool) (ty : TypeId) (m i : Operand) (ok : Bool) (k : AV → Option Nat → List Loc → Prop) : Prop :=
  unc g (evV T st 0 m) fun a => unc g (evV T st 0 i) fun ka => match T.at ty, a with
    | some ti, .mapv id => match ti.desc with
      | .map kt et => optE (T.at kt) fun ki => optE (T.at et) fun ei => optE st.H[id]? fun ob => match ob with
        | .mp es => keyD ki.desc ka = true ∧ ∃ r f, lookE ei.zero es ka r f ∧ k (bif ok then .tup [r, .bool f] else r) none (opN m ++ opN i ++ [.obj id])
        | _ => False
      | _ => False
    | _, _ => False
theorem evLookup_ok (hT : TOk P T) {g ok : Bool} {k : AV → Option Nat → List Loc → Prop} {ty : TypeId} {m i : Operand} (hc : constOk T o = true) (ho : o.op = .lookup ty m i ok) (h : evLookup T st g ty m i ok k) : Yld E P st o g k := by
  unfold evLookup at h
  obtain ⟨a', h, ha'⟩ := unc_ok h
  obtain ⟨ka, h, hka⟩ := unc_ok h
  split at h
  · rename_i ti id hti _
    have hu := (hT _ _ hti).under
    split at h
    · rename_i kt et hd
      rw [hd] at hu
      obtain ⟨ki, hki, h⟩ := optE_ok h
      have huk := (hT _ _ hki).under
      obtain ⟨ei, hei, h⟩ := optE_ok h
      have hfe := hT _ _ hei
      obtain ⟨ob, hob, h⟩ := optE_ok h
      split at h
      · rename_i es
        obtain ⟨h1, r, f, hl, h⟩ := h
        refine ⟨_, none, _, h, fun hg => .value fun B G w a hgd hN => ?_⟩
        have r1 := ha' hg _ _ _ _ (evV_ok (T := T) hgd (constOk.at hc (ty := 0) (x := m) (by simp [opcs, ho])) fun l hl => hN l (by simp [hl])).1
        have r2 := hka hg _ _ _ _ (evV_ok (T := T) hgd (constOk.at hc (ty := 0) (x := i) (by simp [opcs, ho])) fun l hl => hN l (by simp [hl])).1
        have hobj : RepObj G w id (some (.mp es)) := by
          have := hN (.obj id) (by simp)
          simpa only [RepL, hob] using this
        generalize hvm : a.eval m = vm at *
        generalize hvk : a.eval i = vk at *
        cases r1 with
        | mapv _ _ gg hι =>
        obtain ⟨g', i1, i2, i3, arr, clock, m1, m2, m3⟩ := hobj
        rw [hι] at i1
        injection i1 with i1
        subst i1
        have hik := keyD_is h1 r2
        obtain ⟨v, hrun, hrep⟩ : ∃ v, (Instr.lookup ty (.map (some gg)) vk ok).run P w = .ok (if ok then .tuple #[v, .bool f] else v) w ∧ Rep G.F w G.ι v r := by
          rcases find_map h1 r2 es arr.toList 0 (by simpa using m2) (fun i e p he hp => m3 i e p (by simpa using he) hp) hl with ⟨rfl, rfl, k1⟩ | ⟨rfl, j, v, k1, k2⟩
          · refine ⟨ei.zv, ?_, repz_ok hfe.zero _ _ _⟩
            simp [Instr.lookup, run_underlying hu, MapKept.run_getObj_map m1, MapKept.run_checkKey huk hik, MapKept.run_findKey huk k1, hfe.run_zero, Result.andThen]
          · refine ⟨v, ?_, k2.mono (fun _ _ h => h) (fun _ _ _ => rfl) _ fun _ _ h => by cases h⟩
            simp [Instr.lookup, run_underlying hu, MapKept.run_getObj_map m1, MapKept.run_checkKey huk hik, MapKept.run_findKey huk k1, Result.andThen]
        have hexec : (execOp a.eval o).run P w = .ok (.value (if ok then .tuple #[v, .bool f] else v)) w := by
          simp only [execOp, ho, Sem.run_bind, hvm, hvk, hrun, Result.andThen_ok, Sem.run_pure]
        refine ⟨_, hexec, ?_, trivial⟩
        cases ok with
        | false => exact hrep
        | true =>
          refine .tup _ [v, .bool f] [r, .bool f] rfl fun i u c hu hcc => ?_
          match i, hu, hcc with
          | 0, hu, hcc => injection hu with hu; injection hcc with hcc; subst hu hcc; exact hrep
          | 1, hu, hcc => injection hu with hu; injection hcc with hcc; subst hu hcc; exact .bool ..
      · exact h.elim
    · exact h.elim
  · exact h.elim
end

/-! ### Typed maps -/
def mget {κ ν : Type} [BEq κ] (z : ν) : List (κ × ν) → κ → ν
  | [], _ => z
  | p :: l, k => bif k == p.1 then p.2 else mget z l k
def mhas {κ ν : Type} [BEq κ] : List (κ × ν) → κ → Bool
  | [], _ => false
  | p :: l, k => bif k == p.1 then true else mhas l k
def mins {κ ν : Type} [BEq κ] : List (κ × ν) → κ → ν → List (κ × ν)
  | [], k, v => [(k, v)]
  | p :: l, k, v => bif k == p.1 then (p.1, v) :: l else p :: mins l k v
def menc {κ ν : Type} (ek : κ → AV) (ev : ν → AV) (l : List (κ × ν)) : List (AV × AV) := l.map fun p => (ek p.1, ev p.2)
theorem look_map {κ ν : Type} [BEq κ] (ek : κ → AV) (ev : ν → AV) (hk : ∀ a b, keyB (ek a) (ek b) (a == b)) (z : ν) {z' : AV} (hz : z' = ev z) (k : κ) : ∀ (l : List (κ × ν)), lookE z' (menc ek ev l) (ek k) (ev (mget z l k)) (mhas l k)
  | [] => ⟨hz.symm, rfl⟩
  | p :: l => by
    refine ⟨k == p.1, hk _ _, fun h => ?_, fun h => ?_⟩
    · unfold mget mhas; rw [h]; exact ⟨rfl, rfl⟩
    · unfold mget mhas; rw [h]; exact look_map ek ev hk z hz k l
theorem ins_typed {κ ν : Type} [BEq κ] (ek : κ → AV) (ev : ν → AV) (hk : ∀ a b, keyB (ek a) (ek b) (a == b)) (k : κ) (v : ν) : ∀ (l : List (κ × ν)), insE (menc ek ev l) (ek k) (ev v) (menc ek ev (mins l k v))
  | [] => rfl
  | p :: l => by
    refine ⟨k == p.1, hk _ _, fun h => ?_, fun h => ⟨_, ins_typed ek ev hk k v l, ?_⟩⟩
    · unfold mins; rw [h]; rfl
    · conv => lhs; unfold mins
      rw [h]; rfl
theorem keyB_int (K : IntKind) (a b : Int) : keyB (.int K a) (.int K b) (a == b) := ⟨rfl, rfl⟩
theorem keyB_str (a b : Bytes) : keyB (.str a) (.str b) (a == b) := rfl
end Go.Pm
