/-
  What the package-level variables hold: the table of powers of ten, the machine's number 'MaxLen'.
-/
import Derived.Test.YtommkfooolabhaaGreatDoorPm25
import Derived.Test.YtommkfooolabhaaGreatDoorProg
import Derived.Lib.LaidTab
import Derived.Lib.ItoaNum
import Derived.Lib.ItoaWalk
import Derived.KernelRfl
import Derived.Shelf.Vars
namespace Go.Proofs.YtommkfooolabhaaGreatDoor
open Go Go.Pm
set_option linter.unusedSimpArgs false
set_option linter.unusedVariables false
class LaidM (E : Pm.Env) : Prop where
  maxlen : ∃ m, E.W0.cell? ⟨0, 0, none⟩ = some (.int .i64 m)
  gm : 0 < E.GB
class LaidE (E : Pm.Env) : Prop extends LaidM E where
  tab : Lib.TabIs Tryz.prog E.W0 "internal/strconv.uint64pow10" .u64 Lib.pow10Tab
  gt : 1 < E.GB
theorem cell_E {E : Pm.Env} {F : Nat → Nat → Prop} {w : World} (hg : GoodW E F w) {g o : Nat} (hlt : g < E.GB) : w.cell? ⟨g, o, none⟩ = E.W0.cell? ⟨g, o, none⟩ := by
  unfold World.cell?
  rw [hg.glob g hlt]
theorem tab_E {E : Pm.Env} [h : LaidE E] {F : Nat → Nat → Prop} {w : World} (hg : GoodW E F w) : Lib.TabIs Tryz.prog w "internal/strconv.uint64pow10" .u64 Lib.pow10Tab := by
  have h1 := h.tab
  have hn : Tryz.prog.globalNamed "internal/strconv.uint64pow10" = some 1 := by kernel_rfl
  unfold Lib.TabIs World.var? at h1 ⊢
  rw [hn] at h1 ⊢
  simp only [Option.bind_some] at h1 ⊢
  rw [hg.glob _ h.gt]
  exact h1
theorem maxlen_E {E : Pm.Env} [h : LaidM E] {F : Nat → Nat → Prop} {w : World} (hg : GoodW E F w) : ∃ m, w.cell? ⟨0, 0, none⟩ = some (.int .i64 m) := by
  obtain ⟨m, hm⟩ := h.maxlen
  exact ⟨m, (cell_E hg h.gm).trans hm⟩
theorem laid_lt {W : World} (g : Nat) (v : Value) (h : W.cell? ⟨g, 0, none⟩ = some v) : g < W.heap.size := by
  unfold World.cell? at h
  split at h
  · next h3 => exact (Array.getElem?_eq_some_iff.1 h3).1
  · cases h
theorem laidM_of {W : World} (hsh : W.ShapedOpen Tryz.prog) : LaidM ⟨W, W.heap.size⟩ := by
  have hm : ∃ m, W.cell? ⟨0, 0, none⟩ = some (.int .i64 m) :=
    cell_of_shapedOpen_int (P := Tryz.prog) (g := 0) (t := 3) (zero := #[.int .i64 0]) hsh (of_decide_eq_true (by kernel_rfl)) (by kernel_rfl) rfl (by kernel_rfl) (by kernel_rfl) Tryz.underlying3
  refine ⟨hm, ?_⟩
  obtain ⟨m, hm⟩ := hm
  exact laid_lt _ _ hm
theorem laidE_of {W : World} (htab : Lib.TabIs Tryz.prog W "internal/strconv.uint64pow10" .u64 Lib.pow10Tab) (hsh : W.ShapedOpen Tryz.prog) : LaidE ⟨W, W.heap.size⟩ :=
  { laidM_of hsh with tab := htab, gt := laid_lt _ (.int .u64 1) (htab.cell (by kernel_rfl) 0 (by rw [Lib.pow10Tab_length]; exact Nat.le_of_ble_eq_true rfl)) }
end Go.Proofs.YtommkfooolabhaaGreatDoor
