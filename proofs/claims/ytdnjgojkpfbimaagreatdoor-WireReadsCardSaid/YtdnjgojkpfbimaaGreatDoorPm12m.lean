/-
  Generic: maps of the call's own: made, written, looked up.
-/
import Derived.Test.YtdnjgojkpfbimaaGreatDoorPm12r
import Derived.Lib.OthersKept
import Derived.Laws.Runes
namespace Go.Pm
open Go Go.RowKit
set_option linter.unusedVariables false
set_option linter.unusedSimpArgs false
section
variable {E : Env} {B : Base} {G : Gh} {w w' : World}
end
section
variable {P : Program} {kt : TypeId} {F : Nat -> Nat -> Prop} {w : World} {ks : List Nat} {a : AV} {kv : Value} {Same : Value -> Bool -> Prop} {srch : List MapEntry -> Nat -> Option (Nat × Value) -> Prop}
end
section
variable {E : Env} {P : Program} {T : Tab} {st : St} {o : Oper}
end
section
variable {E : Env} {P : Program} {T : Tab} {st : St} {o : Oper}
end
def runeAt (s : Bytes) (pos : Nat) : Nat := (Utf8.decode ⟨s.toArray⟩ pos).1
def widthAt (s : Bytes) (pos : Nat) : Nat := (Utf8.decode ⟨s.toArray⟩ pos).2
section
variable {E : Env} {B : Base} {G : Gh} {w w' : World}
theorem aAH (h : Good E B G w) {id : Nat} (hid : G.ι id = none) {o : Obj} (hw : jU w w' o) {x : SObj} (hx0 : ∀ F O i, SpAt F O i w' w.heap.size x) :
    let G1 : Gh := { G with ι := setI G.ι id w.heap.size, O := setI G.O w.heap.size (.inl id) }
    Good E B G1 w' /\ FrH G w G1 w' [.obj id] /\ bC G1 w' id (some (.mp x)) /\ G1.ι id = some w.heap.size := by
  intro G1
  have hne : ∀ b i, G.O b = some i -> b ≠ w.heap.size := fun b i hi => Nat.ne_of_lt (h.own b i hi).1
  have hx : Ext G w G1 w' := ⟨fun _ _ x => x, fun i g hi => by
    have : i ≠ id := fun e => by rw [e, hid] at hi; cases hi
    show setI G.ι id w.heap.size i = some g
    rw [aD _ _ this]; exact hi, fun _ _ x => x, fun b o hb => aR (hw.old b (h.fin b o hb))⟩
  refine ⟨h.step (by rw [hw.size]; omega) (fun b hb _ => hw.old b hb) (fun b o hb => hx.w b o hb) (fun _ _ x => x) (fun b o hb => ⟨by rw [hw.size]; have := h.fin b o hb; omega, .inl hb⟩) (fun b i hi => ?_) hw.os hw.tape hw.output hx, ⟨hx, fun i c hi hc => ?_, fun i c _ hc => ?_⟩, ?_, aF ..⟩
  · by_cases hb : b = w.heap.size
    · subst hb; exact ⟨by rw [hw.size]; omega, .inl (Nat.le_refl _)⟩
    · have hi' : G.O b = some i := by rw [<- hi]; exact (aD _ _ hb).symm
      exact ⟨by rw [hw.size]; have := (h.own b i hi').1; omega, .inr (by rw [hi']; simp)⟩
  · have hne' : i ≠ id := fun e => hi (by simp [e])
    refine hc.keep hx (fun hn => by show setI _ _ _ i = none; rw [aD _ _ hne']; exact hn) fun g hg => ⟨?_, hw.old g (h.own g _ hg).1, fun _ x => x⟩
    show setI _ _ _ g = _
    rw [aD _ _ (hne g _ hg)]; exact hg
  · refine hc.keep hx (fun x => x) fun g hg => ⟨?_, hw.old g (h.own g _ hg).1, fun _ x => x⟩
    show setI _ _ _ g = _
    rw [aD _ _ (hne g _ hg)]; exact hg
  · exact ⟨w.heap.size, aF .., aF .., fun x hx' => absurd (h.fin _ _ hx') (Nat.lt_irrefl _), hx0 _ _ _⟩
theorem zR (h : Good E B G w) {id g : Nat} (hid : G.ι id = some g) {x x' : SObj} (hobj : bC G w id (some (.mp x))) (hsz : w'.heap.size = w.heap.size) (hold : ∀ b, b ≠ g -> w'.heap[b]? = w.heap[b]?)
    (hos : w'.os = w.os) (htape : w'.tape = w.tape) (hout : w'.output = w.output) (hm : SpAt G.F G.O id w' g x') :
    Good E B G w' /\ FrH G w G w' [.obj id] /\ bC G w' id (some (.mp x')) := by
  obtain ⟨g', i1, i2, i3, i4⟩ := hobj
  rw [hid] at i1
  injection i1 with i1
  subst i1
  have hcell : ∀ b o, G.F b o -> w'.cell? ⟨b, o, none⟩ = w.cell? ⟨b, o, none⟩ := fun b o hb => aR (hold b (fun e => i3 o (e ▸ hb)))
  have hx : Ext G w G w' := ⟨fun _ _ x => x, fun _ _ x => x, fun _ _ x => x, hcell⟩
  refine ⟨h.step (by rw [hsz]; exact Nat.le_refl _) (fun b _ hn => hold b (fun e => by rw [e, i2] at hn; cases hn)) hcell (fun _ _ x => x) (fun b o hb => ⟨by rw [hsz]; exact h.fin b o hb, .inl hb⟩) (fun b i hi => ⟨by rw [hsz]; exact (h.own b i hi).1, .inr (by rw [hi]; simp)⟩) hos htape hout hx, ⟨hx, fun i c hi hc => ?_, fun i c _ hc => ?_⟩, ⟨g, hid, i2, i3, hm⟩⟩
  · refine hc.keep hx (fun x => x) fun g2 hg2 => ⟨hg2, hold g2 (fun e => ?_), fun _ x => x⟩
    rw [e, i2] at hg2
    injection hg2 with hg2
    injection hg2 with hg2
    exact hi (by simp [hg2])
  · refine hc.keep hx (fun x => x) fun g2 hg2 => ⟨hg2, hold g2 (fun e => ?_), fun _ x => x⟩
    rw [e, i2] at hg2
    injection hg2 with hg2
    cases hg2
end
section
variable {E : Env} {P : Program} {T : Tab} {st : St} {o : Oper}
def rD (T : Tab) (st : St) (ty : TypeId) (x : Operand) (k : KH) : Prop :=
  unc true (evV T st ty x) fun a => match T.at ty, a with
    | some ti, .str s => match ti.desc with
      | .string => k (.ptr st.H.length 0) none (st.H ++ [.mp (.iter s 0)]) st.k (opN x ++ [.obj st.H.length]) [.obj st.H.length]
      | _ => False
    | _, _ => False
theorem uO (hT : TOk P T) {k : KH} {ty : TypeId} {x : Operand} (hc : aA T o = true) (ho : o.op = .range ty x) (h : rD T st ty x k) : YldH E P st o k := by
  unfold rD at h
  obtain ⟨a', h, ha'⟩ := a8 h
  split at h
  · rename_i ti s hti
    have hu := (hT _ _ hti).under
    split at h
    · rename_i hd
      rw [hd] at hu
      refine ⟨_, _, _, _, _, _, h, ⟨by simp, fun l hl => ?_, fun B G w a hg hN K Q hK => ?_⟩⟩
      · cases l with
        | slot => trivial
        | obj i => exact c9 _ _ (fun e => hl (by simp [e]))
        | tok i => rfl
      · have r1 := ha' rfl _ _ _ _ (aI (T := T) hg (aA.at hc (ty := ty) (x := x) (by simp [opcs, ho])) fun l hl => hN l (by simp [hl])).1
        have hid : G.ι st.H.length = none := by
          have := hN (.obj st.H.length) (by simp)
          simp only [RepL] at this
          rw [List.getElem?_eq_none (Nat.le_refl _)] at this
          exact this
        generalize hv : a.eval x = vx at *
        cases r1 with
        | str _ _ hs =>
        have hgr := dB w (.stringIter ⟨s.toArray⟩ 0)
        obtain ⟨g1, g2, g3, g4⟩ := aAH (x := .iter s 0) hg hid hgr (fun F O i => ⟨hs, hgr.new⟩)
        have hrun : (execOp a.eval o).run P w = .ok (.value (.pointer (some ⟨w.heap.size, 0, none⟩))) (w.alloc (.stringIter ⟨s.toArray⟩ 0)) := by
          simp [execOp, ho, hv, Instr.range, run_underlying hu, Result.andThen]
        unfold Oper.wp
        rw [hrun]
        refine hK _ _ _ g1 g2 ⟨.ptr _ _ _ _ g4, trivial⟩ fun l hl => ?_
        simp only [List.mem_singleton] at hl
        subst hl
        simp only [RepH]
        rw [List.getElem?_append_right (Nat.le_refl _), Nat.sub_self]
        exact g3
    · exact h.elim
  · exact h.elim
def nQ (T : Tab) (st : St) (ty : TypeId) (k : KH) : Prop :=
  match T.at ty with
  | none => False
  | some ti => ∃ e, ti.zv = .agg #[.pointer none, .slice none 0 0] /\ k (.ptr st.H.length 0) none (st.H ++ [.mp (.bld ty e [])]) st.k [.obj st.H.length] [.obj st.H.length]
theorem rE (hT : TOk P T) {k : KH} {ty : TypeId} (ho : o.op = .alloc ty) (h : nQ T st ty k) : YldH E P st o k := by
  unfold nQ at h
  split at h
  · exact h.elim
  · rename_i ti hti
    have hf := hT _ _ hti
    obtain ⟨e, hz, h⟩ := h
    refine ⟨_, _, _, _, _, _, h, ⟨by simp, fun l hl => ?_, fun B G w a hg hN K Q hK => ?_⟩⟩
    · cases l with
      | slot => trivial
      | obj i => exact c9 _ _ (fun e => hl (by simp [e]))
      | tok i => rfl
    · have hid : G.ι st.H.length = none := by
        have := hN (.obj st.H.length) (by simp)
        simp only [RepL] at this
        rw [List.getElem?_eq_none (Nat.le_refl _)] at this
        exact this
      have hgr := dB w (.cells #[.pointer none, .slice none 0 0] ty)
      obtain ⟨g1, g2, g3, g4⟩ := aAH (x := .bld ty e []) hg hid hgr (fun F O i => ⟨.slice none 0 0, ⟨_, hgr.new, .inl rfl⟩, World.ownsRow_nil _ _ _ _, fun k hk => by cases hk⟩)
      have hrun : (execOp a.eval o).run P w = .ok (.value (.pointer (some ⟨w.heap.size, 0, none⟩))) (w.alloc (.cells #[.pointer none, .slice none 0 0] ty)) := by
        simp [execOp, ho, Instr.alloc, hf.run_zero, newVar, newRow, hz, Value.cells]
      unfold Oper.wp
      rw [hrun]
      refine hK _ _ _ g1 g2 ⟨.ptr _ _ _ _ g4, trivial⟩ fun l hl => ?_
      simp only [List.mem_singleton] at hl
      subst hl
      simp only [RepH]
      rw [List.getElem?_append_right (Nat.le_refl _), Nat.sub_self]
      exact g3
def wF (T : Tab) (st : St) (x : Operand) (k : KH) : Prop :=
  unc true (evV T st 0 x) fun a => match a with
    | .ptr id 0 => optE st.H[id]? fun ob => match ob with
      | .mp (.iter s pos) => (decide (pos < s.length) = true -> k (.tup [.bool true, .int .i64 (pos : Int), .int .i32 (runeAt s pos : Int)]) none (st.H.set id (.mp (.iter s (pos + widthAt s pos)))) st.k (opN x ++ [.obj id]) [.obj id]) /\
          (decide (pos < s.length) = false -> k (.tup [.bool false]) none st.H st.k (opN x ++ [.obj id]) [])
      | _ => False
    | _ => False
theorem wG {k : KH} {ty : TypeId} {x : Operand} (hc : aA T o = true) (ho : o.op = .next x true) (h : wF T st x k) : YldH E P st o k := by
  unfold wF at h
  obtain ⟨a', h, ha'⟩ := a8 h
  split at h
  · rename_i id
    obtain ⟨ob, hob, h⟩ := bV h
    split at h
    · rename_i s pos
      have key : ∀ (B : Base) (G : Gh) (w : World) (a : Act), Good E B G w -> (∀ l, l ∈ opN x ++ [.obj id] -> RepL G w a l st) -> ∃ g, a.eval x = .pointer (some ⟨g, 0, none⟩) /\ G.ι id = some g /\ bC G w id (some (.mp (.iter s pos))) /\ s.length <= maxLen /\ w.heap[g]? = some (.stringIter ⟨s.toArray⟩ pos) := by
        intro B G w a hg hN
        have r1 := ha' rfl _ _ _ _ (aI (T := T) hg (aA.at hc (ty := 0) (x := x) (by simp [opcs, ho])) fun l hl => hN l (by simp [hl])).1
        have hobj : bC G w id (some (.mp (.iter s pos))) := by
          have := hN (.obj id) (by simp)
          simpa only [RepL, hob] using this
        generalize hv : a.eval x = vx at *
        cases r1 with
        | ptr _ _ _ g hι =>
        have hobj' := hobj
        obtain ⟨g', i1, i2, i3, m1, m2⟩ := hobj'
        rw [hι] at i1
        injection i1 with i1
        subst i1
        exact ⟨g, rfl, hι, hobj, m1, m2⟩
      have hz : (⟨s.toArray⟩ : ByteArray).size = s.length := by simp [ByteArray.size]
      cases hb : decide (pos < s.length) with
      | true =>
        have hlt := of_decide_eq_true hb
        refine ⟨_, _, _, _, _, _, h.1 hb, ⟨by simp, fun l hl => ?_, fun B G w a hg hN K Q hK => ?_⟩⟩
        · cases l with
          | slot => trivial
          | obj i => exact kA _ _ _ _ (fun e => hl (by simp [e]))
          | tok i => rfl
        · obtain ⟨g, hv, hι, hobj, m1, m2⟩ := key B G w a hg hN
          have hnx := Go.Lib.run_next_any_at (P := P) w g ⟨s.toArray⟩ pos o.type m2 (by rw [hz]; exact hlt)
          have hset := MapKept.heap_set (w := w) (r := g) (o' := .stringIter ⟨s.toArray⟩ (pos + widthAt s pos)) m2
          have hrun : (execOp a.eval o).run P w = .ok (.value (.tuple #[.bool true, .int .i64 pos, .int .i32 (runeAt s pos)])) { w with heap := w.heap.setIfInBounds g (.stringIter ⟨s.toArray⟩ (pos + widthAt s pos)) } := by
            simp only [execOp, ho, hv, Sem.run_bind, hnx, Result.andThen_ok, Sem.run_pure]
            rfl
          obtain ⟨w1, w2, w3⟩ := zR (w' := { w with heap := w.heap.setIfInBounds g (.stringIter ⟨s.toArray⟩ (pos + widthAt s pos)) }) (x' := .iter s (pos + widthAt s pos)) hg hι hobj (by simp) (fun b hb => hset.2 b hb) rfl rfl rfl ⟨m1, hset.1⟩
          unfold Oper.wp
          rw [hrun]
          have hrune : IntKind.i32.wrap (runeAt s pos : Int) = (runeAt s pos : Int) := by
            have := decode_le ⟨s.toArray⟩ pos
            have h2 : runeAt s pos <= 2147483647 := this
            exact IntWalk.i32_in _ (by omega)
          refine hK _ _ _ w1 w2 ⟨.tup _ [.bool true, .int .i64 pos, .int .i32 (runeAt s pos)] _ rfl fun i u c hu hcc => ?_, trivial⟩ fun l hl => ?_
          · match i, hu, hcc with
            | 0, hu, hcc => injection hu with hu; injection hcc with hcc; subst hu hcc; exact .bool ..
            | 1, hu, hcc => injection hu with hu; injection hcc with hcc; subst hu hcc; exact .int _ _ _ (i9 (by omega))
            | 2, hu, hcc => injection hu with hu; injection hcc with hcc; subst hu hcc; exact .int _ _ _ hrune
          · simp only [List.mem_singleton] at hl
            subst hl
            simp only [RepH]
            rw [List.getElem?_set_self (List.getElem?_eq_some_iff.1 hob).1]
            exact w3
      | false =>
        have hlt := of_decide_eq_false hb
        refine ⟨_, _, _, _, _, _, h.2 hb, .value fun B G w a hg hN => ?_⟩
        obtain ⟨g, hv, hι, hobj, m1, m2⟩ := key B G w a hg hN
        have hnx := Go.Lib.run_next_end_at (P := P) w g ⟨s.toArray⟩ pos o.type m2 (by rw [hz]; exact hlt)
        refine ⟨.tuple #[.bool false], by simp only [execOp, ho, hv, Sem.run_bind, hnx, Result.andThen_ok, Sem.run_pure], .tup _ [.bool false] _ rfl fun i u c hu hcc => ?_, trivial⟩
        match i, hu, hcc with
        | 0, hu, hcc => injection hu with hu; injection hcc with hcc; subst hu hcc; exact .bool ..
    · exact h.elim
  · exact h.elim
end
section
variable {E : Env} {P : Program} {T : Tab} {st : St} {o : Oper}
def isIntT (T : Tab) (t : TypeId) : Bool := match T.at t with | some ti => (match ti.desc with | .int _ => true | _ => false) | none => false
def encB (n : Int) : Bytes := (Utf8.encode n).data.toList
theorem zS (n : Int) : (encB n).length <= 4 := by
  unfold encB Utf8.encode
  dsimp only
  repeat' split
  all_goals simp
def wH (T : Tab) (st : St) (g : Bool) (src dst : TypeId) (x : Operand) (k : AV -> Option Nat -> List Loc -> Prop) : Prop :=
  unc g (evV T st src x) fun a => match T.at src, T.at dst, a with
    | some _, some di, .int _ n => match di.desc with
      | .string => k (.str (encB n)) none (opN x)
      | _ => False
    | _, _, _ => False
theorem wI (hT : TOk P T) {g : Bool} {k : AV -> Option Nat -> List Loc -> Prop} {src dst : TypeId} {x : Operand} (hc : aA T o = true) (ho : o.op = .convert src dst x) (h : wH T st g src dst x k) : Yld E P st o g k := by
  unfold wH at h
  obtain ⟨a', h, ha'⟩ := a8 h
  split at h
  · rename_i si di kd n hsi hdi
    split at h
    · rename_i hd
      have hu := (hT _ _ hdi).under
      rw [hd] at hu
      have hus := (hT _ _ hsi).under
      refine ⟨_, none, _, h, fun hg => .value fun B G w a hgd hN => ?_⟩
      have r1 := ha' hg _ _ _ _ (aI (T := T) hgd (aA.at hc (ty := src) (x := x) (by simp [opcs, ho])) hN).1
      generalize hv : a.eval x = vx at *
      cases r1
      refine ⟨.string (Utf8.encode n), ?_, ?_, trivial⟩
      · have := run_convert_int_string (P := P) w src dst kd n (by rw [hus]; rfl) hu
        simp only [execOp, ho, hv, Sem.run_bind, this, Result.andThen_ok, Sem.run_pure]
      · have h4 := zS n
        have h3 := Rep.str (F := G.F) (w := w) G.ι (encB n) (by unfold maxLen; omega)
        have e : (⟨(encB n).toArray⟩ : ByteArray) = Utf8.encode n := by unfold encB; simp
        rw [e] at h3
        exact h3
    · exact h.elim
  · exact h.elim
end
end Go.Pm
