/-
  math/bits.TrailingZeros64 at this seat: the library's contract, laid; strconv.FormatUint at base 16.
-/
import Derived.Test.YtpionnihpibglaaGreatDoorGw2
import Derived.Shelf.Spec.TrailingZeros
import Derived.Test.YtpionnihpibglaaGreatDoorGi5
namespace Go.Proofs
open Go.Shelf
set_option linter.unusedSimpArgs false
set_option linter.unusedVariables false
def Tryz.laysTz_ren : Go.Shelf.Ren := ⟨fun | 29 => 163 | n => n, fun | 0 => 0 | 3 => 3 | 4 => 4 | 5 => 5 | 22 => 72 | 25 => 92 | 54 => 179 | n => n, fun | 1 => 5 | n => n⟩
theorem Tryz.laysTz : Go.Proofs.Lays7.n29 Tryz.prog Tryz.laysTz_ren := {
 mixed := by kernel_rfl
 f29 := Tryz.func163.trans (congrArg some (by kernel_rfl))
 t0 := Tryz.underlying0
 a0 := Tryz.isAgg0
 z0 := Tryz.sizeOf0
 v0 := Tryz.zeroValue0
 i0 := by kernel_rfl
 t3 := Tryz.underlying3
 a3 := Tryz.isAgg3
 z3 := Tryz.sizeOf3
 v3 := Tryz.zeroValue3
 i3 := by kernel_rfl
 t4 := Tryz.underlying4
 a4 := Tryz.isAgg4
 z4 := Tryz.sizeOf4
 v4 := Tryz.zeroValue4
 i4 := by kernel_rfl
 t5 := Tryz.underlying5
 a5 := Tryz.isAgg5
 z5 := Tryz.sizeOf5
 v5 := Tryz.zeroValue5
 i5 := by kernel_rfl
 t22 := Tryz.underlying72
 a22 := Tryz.isAgg72
 z22 := Tryz.sizeOf72
 v22 := Tryz.zeroValue72
 i22 := by kernel_rfl
 t25 := Tryz.underlying92
 a25 := Tryz.isAgg92
 z25 := Tryz.sizeOf92
 v25 := Tryz.zeroValue92
 i25 := by kernel_rfl
 t54 := Tryz.underlying179
 a54 := Tryz.isAgg179
 z54 := Tryz.sizeOf179
 g1 := by kernel_rfl }
end Go.Proofs
namespace Go.Proofs.YtpionnihpibglaaGreatDoor
open Go Go.Pm Go.RowKit
class LaidB (E : Pm.Env) : Prop extends LaidE E where
 tabB : TabAt 5 Lib.deBruijn64tab E.W0
 gB : 5 < E.GB
theorem tabB_E {E : Pm.Env} [h : LaidB E] {F : Nat → Nat → Prop} {w : World} (hg : GoodW E F w) : TabAt 5 Lib.deBruijn64tab w := fun j hj => (cell_E hg h.gB).trans (h.tabB j hj)
theorem laidB_of {W : World} (htab : Lib.TabIs Tryz.prog W "internal/strconv.uint64pow10" .u64 Lib.pow10Tab) (hb : Lib.TabIs Tryz.prog W "math/bits.deBruijn64tab" .u8 (Lib.deBruijn64tab.map fun k : Nat => (k : Int))) (hsh : W.ShapedOpen Tryz.prog) : LaidB ⟨W, W.heap.size⟩ :=
 have hc : TabAt 5 Lib.deBruijn64tab W := fun j hj => by
  have h := hb.cell (g := 5) (by kernel_rfl) j (by rw [List.length_map]; exact hj)
  have e : (Lib.deBruijn64tab.map fun k : Nat => (k : Int)).getD j 0 = ((Lib.deBruijn64tab.getD j 0 : Nat) : Int) := by
   simp only [List.getD, List.getElem?_map]
   cases Lib.deBruijn64tab[j]? <;> rfl
  rw [e] at h; exact h
 { laidE_of htab hsh with tabB := hc, gB := laid_lt _ _ (hc 0 (by decide)) }
theorem math_bits_TrailingZeros64_ok (E : Pm.Env) [LaidB E] (a0 : Int) (r : Int) (h : math_bits_TrailingZeros64 a0 = some r) : FnR E Tryz.prog 163 [AV.int .u64 a0] (AV.int .i64 r) false := by
 obtain ⟨⟨h0, h1⟩, h⟩ := chk_some h
 replace h := Option.some.inj h
 subst h
 refine .inl ⟨⟨_, Tryz.func163, by kernel_rfl, by kernel_rfl⟩, fun F w vals hgw hl hr => ?_⟩
 obtain ⟨v, rfl, h2⟩ := vals1 hl hr
 cases h2
 obtain ⟨n, rfl⟩ : ∃ n : Nat, a0 = n := ⟨a0.toNat, by omega⟩
 refine (Any7.bits_TrailingZeros64 Tryz.laysTz n (by omega) w (fun _ => tabB_E hgw)).mono fun e w' ⟨he, hw⟩ => ⟨_, F, he, hw ▸ Below.refl _ _, fun _ _ h => h, fun b o h => ⟨by rw [hw]; exact hgw.fin b o h, .inl h⟩, .int _ _ _ ?_, fun h => by cases h⟩
 have : Lib.ctz 64 n ≤ 64 := by
  by_cases hz : n = 0
  ·subst hz; exact Nat.le_of_ble_eq_true rfl
  ·exact Nat.le_of_lt (Lib.lowest_bit 64 n hz (by omega)).2
 show IntKind.i64.wrap ((Lib.ctz 64 n : Nat) : Int) = _
 exact i64_ok (by omega) (by omega)
end Go.Proofs.YtpionnihpibglaaGreatDoor
