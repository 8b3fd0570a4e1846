/-
  What the package-level variables hold: the table of powers of ten, the machine's number 'MaxLen'.
-/
import Derived.Test.YtommkfooolabhaaGreatDoorPm25
import Derived.Test.YtommkfooolabhaaGreatDoorProg
import Derived.KernelRfl
import Derived.Shelf.Vars
namespace Go.Proofs.YtommkfooolabhaaGreatDoor
open Go Go.Pm
set_option linter.unusedSimpArgs false
set_option linter.unusedVariables false
class LaidM (E : Pm.Env) : Prop where
  maxlen : ∃ m, E.W0.cell? ⟨0, 0, none⟩ = some (.int .i64 m)
  gm : 0 < E.GB
theorem sL {E : Pm.Env} {F : Nat -> Nat -> Prop} {w : World} (hg : kZ E F w) {g o : Nat} (hlt : g < E.GB) : w.cell? ⟨g, o, none⟩ = E.W0.cell? ⟨g, o, none⟩ := by
  unfold World.cell?
  rw [hg.glob g hlt]
theorem lW {E : Pm.Env} [h : LaidM E] {F : Nat -> Nat -> Prop} {w : World} (hg : kZ E F w) : ∃ m, w.cell? ⟨0, 0, none⟩ = some (.int .i64 m) := by
  obtain ⟨m, hm⟩ := h.maxlen
  exact ⟨m, (sL hg h.gm).trans hm⟩
theorem rD {W : World} (g : Nat) (v : Value) (h : W.cell? ⟨g, 0, none⟩ = some v) : g < W.heap.size := by
  unfold World.cell? at h
  split at h
  · next h3 => exact (Array.getElem?_eq_some_iff.1 h3).1
  · cases h
theorem pS {W : World} (hsh : W.ShapedOpen Tryz.prog) : LaidM ⟨W, W.heap.size⟩ := by
  have hm : ∃ m, W.cell? ⟨0, 0, none⟩ = some (.int .i64 m) :=
    cell_of_shapedOpen_int (P := Tryz.prog) (g := 0) (t := 3) (zero := #[.int .i64 0]) hsh (of_decide_eq_true (by kernel_rfl)) (by kernel_rfl) rfl (by kernel_rfl) (by kernel_rfl) Tryz.underlying3
  refine ⟨hm, ?_⟩
  obtain ⟨m, hm⟩ := hm
  exact rD _ _ hm
end Go.Proofs.YtommkfooolabhaaGreatDoor
