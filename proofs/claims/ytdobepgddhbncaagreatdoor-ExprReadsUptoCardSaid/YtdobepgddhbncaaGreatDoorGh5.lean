/-
  strings.Index, by the library's contract.
-/
import Derived.Test.YtdobepgddhbncaaGreatDoorGw2
import Derived.Test.YtdobepgddhbncaaGreatDoorGi6
import Derived.Test.YtdobepgddhbncaaGreatDoorSh1
namespace Go.Proofs.YtdobepgddhbncaaGreatDoor
open Go Go.Pm Go.RowKit
set_option linter.unusedSimpArgs false
set_option linter.unusedVariables false
theorem aBD : ∀ (l t : aA), Lib.index l t <= l.length
  | [], t => by unfold Lib.index; split <;> simp
  | b :: l, t => by
    have := aBD l t
    unfold Lib.index
    split
    · simp; omega
    · split
      · simp; omega
      · simp; omega
theorem sA : ∀ (l : aA) (c : UInt8), Lib.indexByte l c <= l.length
  | [], c => by simp [Lib.indexByte]
  | b :: l, c => by
    have := sA l c
    unfold Lib.indexByte
    split
    · simp; omega
    · split
      · simp; omega
      · simp; omega
theorem xL (E : Pm.Env) [yJ E] (a0 a1 : aA) (r : Int) (h : strings_Index a0 a1 = some r) : FnR E Tryz.prog 123 [AV.str a0, AV.str a1] (AV.int .i64 r) false := by
  refine .inl ⟨⟨_, Tryz.func123, by kernel_rfl, by kernel_rfl⟩, fun F w vals hgw hl hr => ?_⟩
  obtain ⟨v, u, rfl, h1, h2⟩ := vals2 hl hr
  cases h1
  cases h2
  rename_i hs0 ht0
  have fin : ∀ (x : Int), -1 <= x -> x <= a0.length -> ∀ (e : Ending) (w' : World), (e = .returned (.int .i64 x) /\ w' = w) -> ∃ v F', e = .returned v /\ Below w.heap.size w w' /\ (∀ b o, F b o -> F' b o) /\ (∀ b o, F' b o -> b < w'.heap.size /\ (F b o ∨ w.heap.size <= b)) /\
      Rep F' w' (fun _ => none) v (AV.int .i64 x) /\ (false = true -> aBi w F' w' v (AV.int .i64 x)) := fun x hx1 hx2 e w' ⟨he, hw⟩ =>
    ⟨_, F, he, hw ▸ Below.refl _ _, fun _ _ h => h, fun b o h => ⟨by rw [hw]; exact hgw.fin b o h, .inl h⟩, .int _ _ _ (aBk (by omega) (by unfold maxLen at hs0; omega)), fun h => by cases h⟩
  unfold strings_Index at h
  split at h
  · rename_i c
    replace h := Option.some.inj h
    subst h
    exact (Tryz.strings_Index_one ⟨a0.toArray⟩ c w).mono fun e w' he => fin _ (Lib.indexByte_ge a0 c) (sA a0 c) e w' he
  · obtain ⟨h3, h⟩ := kT h
    replace h := Option.some.inj h
    subst h
    obtain ⟨m, hm⟩ := aBB hgw
    exact (Tryz.strings_Index ⟨a0.toArray⟩ ⟨a1.toArray⟩ m w (by simpa [ByteArray.size] using h3) hm).mono fun e w' he => fin _ (Lib.index_ge a0 a1) (aBD a0 a1) e w' he
end Go.Proofs.YtdobepgddhbncaaGreatDoor
