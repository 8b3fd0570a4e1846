/-
  Generic: maps of the call's own: made, written, looked up.
-/
import Derived.Test.YtpionnihpibglaaGreatDoorPm12r
import Derived.Lib.OthersKept
import Derived.Laws.Runes
namespace Go.Pm
open Go Go.RowKit
set_option linter.unusedSimpArgs false
section
variable {E : Env} {B : Base} {G : Gh} {w w' : World}
end
section
variable {P : Program} {kt : TypeId} {F : Nat → Nat → Prop} {w : World} {ks : List Nat} {a : AV} {kv : Value} {Same : Value → Bool → Prop} {srch : List MapEntry → Nat → Option (Nat × Value) → Prop}
end
section
variable {E : Env} {P : Program} {T : Tab} {st : St} {o : Oper}
end
section
variable {E : Env} {P : Program} {T : Tab} {st : St} {o : Oper}
end
/-! ### Texts, rune by rune -/
def runeAt (s : Bytes) (pos : Nat) : Nat := (Utf8.decode ⟨s.toArray⟩ pos).1
def widthAt (s : Bytes) (pos : Nat) : Nat := (Utf8.decode ⟨s.toArray⟩ pos).2
section
variable {E : Env} {B : Base} {G : Gh} {w w' : World}
theorem new_sp (h : Good E B G w) {id : Nat} (hid : G.ι id = none) {o : Obj} (hw : Grown1 w w' o) {x : SObj} (hx0 : ∀ F O i, SpAt F O i w' w.heap.size x) :
    let G1 : Gh := { G with ι := setI G.ι id w.heap.size, O := setI G.O w.heap.size (.inl id) }
    Good E B G1 w' ∧ FrH G w G1 w' [.obj id] ∧ RepObj G1 w' id (some (.mp x)) ∧ G1.ι id = some w.heap.size := by
  intro G1
  have hne : ∀ b i, G.O b = some i → b ≠ w.heap.size := fun b i hi => Nat.ne_of_lt (h.own b i hi).1
  have hx : Ext G w G1 w' := ⟨fun _ _ x => x, fun i g hi => by
    have : i ≠ id := fun e => by rw [e, hid] at hi; cases hi
    show setI G.ι id w.heap.size i = some g
    rw [setI_other _ _ this]; exact hi, fun _ _ x => x, fun b o hb => cell_congr (hw.old b (h.fin b o hb))⟩
  refine ⟨h.step (by rw [hw.size]; omega) (fun b hb _ => hw.old b hb) (fun b o hb => hx.w b o hb) (fun _ _ x => x) (fun b o hb => ⟨by rw [hw.size]; have := h.fin b o hb; omega, .inl hb⟩) (fun b i hi => ?_) hw.os hw.tape hw.output hx, ⟨hx, fun i c hi hc => ?_, fun i c _ hc => ?_⟩, ?_, setI_same ..⟩
  · by_cases hb : b = w.heap.size
    · subst hb; exact ⟨by rw [hw.size]; omega, .inl (Nat.le_refl _)⟩
    · have hi' : G.O b = some i := by rw [← hi]; exact (setI_other _ _ hb).symm
      exact ⟨by rw [hw.size]; have := (h.own b i hi').1; omega, .inr (by rw [hi']; simp)⟩
  · have hne' : i ≠ id := fun e => hi (by simp [e])
    refine hc.keep hx (fun hn => by show setI _ _ _ i = none; rw [setI_other _ _ hne']; exact hn) fun g hg => ⟨?_, hw.old g (h.own g _ hg).1, fun _ x => x⟩
    show setI _ _ _ g = _
    rw [setI_other _ _ (hne g _ hg)]; exact hg
  · refine hc.keep hx (fun x => x) fun g hg => ⟨?_, hw.old g (h.own g _ hg).1, fun _ x => x⟩
    show setI _ _ _ g = _
    rw [setI_other _ _ (hne g _ hg)]; exact hg
  · exact ⟨w.heap.size, setI_same .., setI_same .., fun x hx' => absurd (h.fin _ _ hx') (Nat.lt_irrefl _), hx0 _ _ _⟩
end
section
variable {E : Env} {P : Program} {T : Tab} {st : St} {o : Oper}
def evAllocB (T : Tab) (st : St) (ty : TypeId) (k : KH) : Prop :=
  match T.at ty with
  | none => False
  | some ti => ∃ e, ti.zv = .agg #[.pointer none, .slice none 0 0] ∧ k (.ptr st.H.length 0) none (st.H ++ [.mp (.bld ty e [])]) st.k [.obj st.H.length] [.obj st.H.length]
theorem evAllocB_ok (hT : TOk P T) {k : KH} {ty : TypeId} (ho : o.op = .alloc ty) (h : evAllocB T st ty k) : YldH E P st o k := by
  unfold evAllocB at h
  split at h
  · exact h.elim
  · rename_i ti hti
    have hf := hT _ _ hti
    obtain ⟨e, hz, h⟩ := h
    refine ⟨_, _, _, _, _, _, h, ⟨by simp, fun l hl => ?_, fun B G w a hg hN K Q hK => ?_⟩⟩
    · cases l with
      | slot => trivial
      | obj i => exact app_same _ _ (fun e => hl (by simp [e]))
      | tok i => rfl
    · have hid : G.ι st.H.length = none := by
        have := hN (.obj st.H.length) (by simp)
        simp only [RepL] at this
        rw [List.getElem?_eq_none (Nat.le_refl _)] at this
        exact this
      have hgr := grown1_alloc w (.cells #[.pointer none, .slice none 0 0] ty)
      obtain ⟨g1, g2, g3, g4⟩ := new_sp (x := .bld ty e []) hg hid hgr (fun F O i => ⟨.slice none 0 0, ⟨_, hgr.new, .inl rfl⟩, World.ownsRow_nil _ _ _ _, fun k hk => by cases hk⟩)
      have hrun : (execOp a.eval o).run P w = .ok (.value (.pointer (some ⟨w.heap.size, 0, none⟩))) (w.alloc (.cells #[.pointer none, .slice none 0 0] ty)) := by
        simp [execOp, ho, Instr.alloc, hf.run_zero, newVar, newRow, hz, Value.cells]
      unfold Oper.wp
      rw [hrun]
      refine hK _ _ _ g1 g2 ⟨.ptr _ _ _ _ g4, trivial⟩ fun l hl => ?_
      simp only [List.mem_singleton] at hl
      subst hl
      simp only [RepH]
      rw [List.getElem?_append_right (Nat.le_refl _), Nat.sub_self]
      exact g3
end
section
variable {E : Env} {P : Program} {T : Tab} {st : St} {o : Oper}
def encB (n : Int) : Bytes := (Utf8.encode n).data.toList
end
end Go.Pm
