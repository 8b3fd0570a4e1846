/-
  What the package-level variables hold: the table of powers of ten, the machine's number 'MaxLen'.
-/
import Derived.Test.YtdobepgddhbncaaGreatDoorPm25
import Derived.Test.YtdobepgddhbncaaGreatDoorProg
import Derived.Lib.LaidTab
import Derived.Lib.ItoaNum
import Derived.Lib.ItoaWalk
import Derived.KernelRfl
import Derived.Shelf.Vars
namespace Go.Proofs.YtdobepgddhbncaaGreatDoor
open Go Go.Pm
set_option linter.unusedSimpArgs false
set_option linter.unusedVariables false
class yJ (E : Pm.Env) : Prop where
  maxlen : ∃ m, E.W0.cell? ⟨0, 0, none⟩ = some (.int .i64 m)
  gm : 0 < E.GB
class aI (E : Pm.Env) : Prop extends yJ E where
  tab : Lib.TabIs Tryz.prog E.W0 "internal/strconv.uint64pow10" .u64 Lib.pow10Tab
  gt : 3 < E.GB
theorem cell_E {E : Pm.Env} {F : Nat -> Nat -> Prop} {w : World} (hg : aEA E F w) {g o : Nat} (hlt : g < E.GB) : w.cell? ⟨g, o, none⟩ = E.W0.cell? ⟨g, o, none⟩ := by
  unfold World.cell?
  rw [hg.glob g hlt]
theorem tab_E {E : Pm.Env} [h : aI E] {F : Nat -> Nat -> Prop} {w : World} (hg : aEA E F w) : Lib.TabIs Tryz.prog w "internal/strconv.uint64pow10" .u64 Lib.pow10Tab := by
  have h1 := h.tab
  have hn : Tryz.prog.globalNamed "internal/strconv.uint64pow10" = some 3 := by kernel_rfl
  unfold Lib.TabIs World.var? at h1 ⊢
  rw [hn] at h1 ⊢
  simp only [Option.bind_some] at h1 ⊢
  rw [hg.glob _ h.gt]
  exact h1
theorem aBB {E : Pm.Env} [h : yJ E] {F : Nat -> Nat -> Prop} {w : World} (hg : aEA E F w) : ∃ m, w.cell? ⟨0, 0, none⟩ = some (.int .i64 m) := by
  obtain ⟨m, hm⟩ := h.maxlen
  exact ⟨m, (cell_E hg h.gm).trans hm⟩
theorem aGF {W : World} (g : Nat) (v : Value) (h : W.cell? ⟨g, 0, none⟩ = some v) : g < W.heap.size := by
  unfold World.cell? at h
  split at h
  · next h3 => exact (Array.getElem?_eq_some_iff.1 h3).1
  · cases h
theorem aIF {W : World} (hsh : W.ShapedOpen Tryz.prog) : yJ ⟨W, W.heap.size⟩ := by
  have hm : ∃ m, W.cell? ⟨0, 0, none⟩ = some (.int .i64 m) :=
    cell_of_shapedOpen_int (P := Tryz.prog) (g := 0) (t := 3) (zero := #[.int .i64 0]) hsh (of_decide_eq_true (by kernel_rfl)) (by kernel_rfl) rfl (by kernel_rfl) (by kernel_rfl) Tryz.underlying3
  refine ⟨hm, ?_⟩
  obtain ⟨m, hm⟩ := hm
  exact aGF _ _ hm
theorem aIG {W : World} (htab : Lib.TabIs Tryz.prog W "internal/strconv.uint64pow10" .u64 Lib.pow10Tab) (hsh : W.ShapedOpen Tryz.prog) : aI ⟨W, W.heap.size⟩ :=
  { aIF hsh with tab := htab, gt := aGF _ (.int .u64 1) (htab.cell (by kernel_rfl) 0 (by rw [Lib.pow10Tab_length]; exact Nat.le_of_ble_eq_true rfl)) }
end Go.Proofs.YtdobepgddhbncaaGreatDoor
