/-
  strings.Compare, by the library's contract.
-/
import Derived.Test.YtdobepgddhbncaaGreatDoorGh5
import Derived.Test.YtdobepgddhbncaaGreatDoorGi7
import Derived.Test.YtdobepgddhbncaaGreatDoorPm28
namespace Go.Proofs.YtdobepgddhbncaaGreatDoor
open Go Go.Pm Go.RowKit
set_option linter.unusedSimpArgs false
set_option linter.unusedVariables false
theorem sB : ∀ (a b : aA), -1 <= Lib.compareBytes a b /\ Lib.compareBytes a b <= 1
  | [], [] => by simp [Lib.compareBytes]
  | [], _ :: _ => by simp [Lib.compareBytes]
  | _ :: _, [] => by simp [Lib.compareBytes]
  | x :: a, y :: b => by
    unfold Lib.compareBytes
    split
    · simp
    · split
      · simp
      · exact sB a b
theorem vJ (E : Pm.Env) [yJ E] (a0 a1 : aA) (r : Int) (h : strings_Compare a0 a1 = some r) : FnR E Tryz.prog 83 [AV.str a0, AV.str a1] (AV.int .i64 r) false := by
  refine .inl ⟨⟨_, Tryz.func83, by kernel_rfl, by kernel_rfl⟩, fun F w vals hgw hl hr => ?_⟩
  obtain ⟨v, u, rfl, h1, h2⟩ := vals2 hl hr
  cases h1
  cases h2
  replace h := Option.some.inj h
  subst h
  have hc : -1 <= Lib.compareBytes (⟨a0.toArray⟩ : ByteArray).data.toList (⟨a1.toArray⟩ : ByteArray).data.toList /\ Lib.compareBytes (⟨a0.toArray⟩ : ByteArray).data.toList (⟨a1.toArray⟩ : ByteArray).data.toList <= 1 := sB a0 a1
  refine (Tryz.strings_Compare ⟨a0.toArray⟩ ⟨a1.toArray⟩ w).mono fun e w' ⟨he, hw⟩ => ?_
  exact ⟨_, F, he, hw ▸ Below.refl _ _, fun _ _ h => h, fun b o h => ⟨by rw [hw]; exact hgw.fin b o h, .inl h⟩, .int _ _ _ (aBk (by omega) (by omega)), fun h => by cases h⟩
theorem t8 (E : Pm.Env) [yJ E] (a0 a1 : aA) (r : Int) (h : gT a0 a1 = some r) : FnR E Tryz.prog 143 [AV.str a0, AV.str a1] (AV.int .i64 r) false := by
  refine .inl ⟨⟨_, Tryz.func143, by kernel_rfl, by kernel_rfl⟩, fun F w vals hgw hl hr => ?_⟩
  obtain ⟨v, u, rfl, h1, h2⟩ := vals2 hl hr
  cases h1
  cases h2
  rename_i hs0 ht0
  have fin : ∀ (x : Int), -1 <= x -> x <= a0.length -> ∀ (e : Ending) (w' : World), (e = .returned (.int .i64 x) /\ w' = w) -> ∃ v F', e = .returned v /\ Below w.heap.size w w' /\ (∀ b o, F b o -> F' b o) /\ (∀ b o, F' b o -> b < w'.heap.size /\ (F b o ∨ w.heap.size <= b)) /\
      Rep F' w' (fun _ => none) v (AV.int .i64 x) /\ (false = true -> aBi w F' w' v (AV.int .i64 x)) := fun x hx1 hx2 e w' ⟨he, hw⟩ =>
    ⟨_, F, he, hw ▸ Below.refl _ _, fun _ _ h => h, fun b o h => ⟨by rw [hw]; exact hgw.fin b o h, .inl h⟩, .int _ _ _ (aBk (by omega) (by unfold maxLen at hs0; omega)), fun h => by cases h⟩
  unfold gT strings_Index at h
  split at h
  · rename_i c
    replace h := Option.some.inj h
    subst h
    exact (Go.Proofs.Any.stringslite_Index_one { Tryz.lays143 with } ⟨a0.toArray⟩ c w).mono fun e w' he => fin _ (Lib.indexByte_ge a0 c) (sA a0 c) e w' he
  · obtain ⟨h3, h⟩ := kT h
    replace h := Option.some.inj h
    subst h
    obtain ⟨m, hm⟩ := aBB hgw
    exact (Go.Proofs.Any.stringslite_Index { Tryz.lays143 with } ⟨a0.toArray⟩ ⟨a1.toArray⟩ m w (by simpa [ByteArray.size] using h3) hm).mono fun e w' he => fin _ (Lib.index_ge a0 a1) (aBD a0 a1) e w' he
end Go.Proofs.YtdobepgddhbncaaGreatDoor
