/-
  Contracts of what the machine does itself, and of functions whose contracts the library has.
-/
import Derived.Test.YtommkfooolabhaaGreatDoorGi1
import Derived.Test.YtommkfooolabhaaGreatDoorTy
import Derived.Test.YtommkfooolabhaaGreatDoorSh1
import Derived.Laws.Externs
import Derived.KernelRfl
namespace Go.Proofs.YtommkfooolabhaaGreatDoor
open Go Go.Pm Go.RowKit
set_option linter.unusedSimpArgs false
set_option linter.unusedVariables false
theorem vals2 {F : Nat → Nat → Prop} {w : World} {vals : List Value} {a b : AV} (hl : vals.length = [a, b].length) (h : ∀ (i : Nat) (v : Value) (c : AV), vals[i]? = some v → [a, b][i]? = some c → Rep F w (fun _ => none) v c) : ∃ v u, vals = [v, u] ∧ Rep F w (fun _ => none) v a ∧ Rep F w (fun _ => none) u b := by
  match vals, hl with
  | [v, u], _ => exact ⟨v, u, rfl, h 0 v a rfl rfl, h 1 u b rfl rfl⟩
theorem bytealg_IndexByteString_ok (E : Pm.Env) (a0 : Bytes) (a1 : Int) (r : Int) (h : bytealg_IndexByteString a0 a1 = some r) : FnR E Tryz.prog 207 [AV.str a0, AV.int .u8 a1] (AV.int .i64 r) false := by
  refine .inr ⟨rfl, ?_⟩
  rintro w vals hl ⟨F, hr⟩
  obtain ⟨v, u, rfl, h1, h2⟩ := vals2 hl hr
  cases h1
  cases h2
  replace h := Option.some.inj h
  subst h
  refine ⟨.int .i64 (Lib.indexByte a0 (u8 a1)), ?_, fun F => .int _ _ _ ?_⟩
  · rw [run_callFunc_extern Tryz.func207 (by kernel_rfl) (by kernel_rfl) (by kernel_rfl) (e := Extern.BytealgIndexByte.indexByte) (by kernel_rfl), Lib.run_indexByteString]
    rfl
  · have h1 := Lib.indexByte_ge a0 (u8 a1)
    have h2 : Lib.indexByte a0 (u8 a1) ≤ 9223372036854775807 := by
      have hlt : ∀ (l : Bytes) (c : UInt8), Lib.indexByte l c ≤ l.length := by
        intro l c
        induction l with
        | nil => simp [Lib.indexByte]
        | cons b l ih =>
          unfold Lib.indexByte
          split
          · simp; omega
          · split
            · simp; omega
            · simp; omega
      have := hlt a0 (u8 a1)
      rename_i hml _
      unfold maxLen at hml
      omega
    exact i64_ok (by omega) (by omega)
theorem strings_Join_ok (E : Pm.Env) (a0 : List Bytes) (a1 : Bytes) (r : Bytes) (h : strings_Join a0 a1 = some r) : FnR E Tryz.prog 112 [AV.list 1 (a0.map AV.str), AV.str a1] (AV.str r) false := by
  obtain ⟨⟨hN, hlen⟩, h⟩ := chk_some h
  replace h := Option.some.inj h
  subst h
  refine .inl ⟨⟨_, Tryz.func112, by kernel_rfl, by kernel_rfl⟩, fun F w vals hgw hl hr => ?_⟩
  obtain ⟨v, u, rfl, h1, h2⟩ := vals2 hl hr
  obtain ⟨ad, n, cap, rfl, hn, hcap, hm, hsz, hrow⟩ := h1.list_inv
  cases h2
  rename_i hsep
  rw [List.length_map] at hn
  have hres : ∀ (e : Ending) (w' : World), (e = .returned (.string ⟨(Lib.join a0 a1).toArray⟩) ∧ Below w.heap.size w w') → ∃ v F', e = .returned v ∧ Below w.heap.size w w' ∧ (∀ b o, F b o → F' b o) ∧ (∀ b o, F' b o → b < w'.heap.size ∧ (F b o ∨ w.heap.size ≤ b)) ∧
      Rep F' w' (fun _ => none) v (AV.str (Lib.join a0 a1)) ∧ (false = true → OwnRes w F' w' v (AV.str (Lib.join a0 a1))) := fun e w' ⟨he, hb⟩ =>
    ⟨_, F, he, hb, fun _ _ h => h, fun b o h => ⟨Nat.lt_of_lt_of_le (hgw.fin b o h) hb.size, .inl h⟩, .str _ _ (by unfold maxLen; omega), fun h => by cases h⟩
  rcases hrow with h0 | ⟨b, o, vf, rfl, hF, hcell, hrep⟩
  · have : a0 = [] := by simpa using h0
    subst this
    simp only [List.length_nil] at hn
    subst hn
    exact (Tryz.strings_Join_none ad cap ⟨a1.toArray⟩ w).mono fun e w' ⟨he, hw⟩ => hres e w' ⟨by rw [he]; rfl, hw ▸ Below.refl _ _⟩
  · cases a0 with
    | nil =>
      simp only [List.length_nil] at hn
      subst hn
      exact (Tryz.strings_Join_none _ cap ⟨a1.toArray⟩ w).mono fun e w' ⟨he, hw⟩ => hres e w' ⟨by rw [he]; rfl, hw ▸ Below.refl _ _⟩
    | cons x0 l =>
      have hxs : ((x0 :: l).map fun s => (⟨s.toArray⟩ : ByteArray)).length = n := by rw [List.length_map, hn]
      have hj : (((x0 :: l).map fun s => (⟨s.toArray⟩ : ByteArray)).map (·.data.toList)) = x0 :: l := by
        rw [List.map_map]
        exact List.map_id _
      have hJ := Tryz.strings_Join b o cap ((x0 :: l).map fun s => (⟨s.toArray⟩ : ByteArray)) ⟨a1.toArray⟩ w (fun j x hx => ?_) (hgw.fin b _ (hF 0 (by simp))) (by rw [List.length_map]; exact hN) (by rw [hxs]; exact hcap) (by rw [hj]; exact hlen)
      · rw [hj, hxs] at hJ
        exact hJ.mono fun e w' h => hres e w' h
      · rw [List.getElem?_map] at hx
        cases hl0 : (x0 :: l)[j]? with
        | none => rw [hl0] at hx; cases hx
        | some s =>
          rw [hl0] at hx
          simp only [Option.map_some, Option.some.injEq] at hx
          have he : ((x0 :: l).map AV.str)[j]? = some (AV.str s) := by rw [List.getElem?_map, hl0]; rfl
          obtain ⟨c1, _⟩ := hcell j _ 0 _ he rfl
          have c2 := hrep j _ 0 _ he rfl
          generalize vf j 0 = vv at c1 c2
          cases c2
          rw [Nat.mul_one, Nat.add_zero] at c1
          rw [c1, ← hx]
end Go.Proofs.YtommkfooolabhaaGreatDoor
