/-
  Contracts of strconv.FormatUint at base 10, strings.Split and strings.SplitN.
-/
import Derived.Test.YtommkfooolabhaaGreatDoorGw1
import Derived.Test.YtommkfooolabhaaGreatDoorGe1
import Derived.Test.YtommkfooolabhaaGreatDoorGf1
import Derived.Lib.SplitLaws
namespace Go.Proofs.YtommkfooolabhaaGreatDoor
open Go Go.Pm Go.RowKit
set_option linter.unusedSimpArgs false
set_option linter.unusedVariables false
theorem vals3 {F : Nat → Nat → Prop} {w : World} {vals : List Value} {a b d : AV} (hl : vals.length = [a, b, d].length) (h : ∀ (i : Nat) (v : Value) (c : AV), vals[i]? = some v → [a, b, d][i]? = some c → Rep F w (fun _ => none) v c) :
    ∃ v u x, vals = [v, u, x] ∧ Rep F w (fun _ => none) v a ∧ Rep F w (fun _ => none) u b ∧ Rep F w (fun _ => none) x d := by
  match vals, hl with
  | [v, u, x], _ => exact ⟨v, u, x, rfl, h 0 v a rfl rfl, h 1 u b rfl rfl, h 2 x d rfl rfl⟩
theorem nDigits_le : ∀ (k u : Nat), u < 10 ^ (k + 1) → Lib.nDigits u ≤ k + 1
  | 0, u, h => by rw [Lib.nDigits_small (by omega)]; omega
  | k + 1, u, h => by
    by_cases h10 : u < 10
    · rw [Lib.nDigits_small h10]; omega
    · rw [Lib.nDigits_big h10]
      have := nDigits_le k (u / 10) (by
        have : u < 10 ^ (k + 1) * 10 := by rw [← Nat.pow_succ]; exact h
        omega)
      omega
theorem strconv_FormatUint_ok (E : Pm.Env) [LaidE E] (a0 a1 : Int) (r : Bytes) (h : strconv_FormatUint a0 a1 = some r) : FnR E Tryz.prog 147 [AV.int .u64 a0, AV.int .i64 a1] (AV.str r) false := by
  obtain ⟨⟨hb, h0, h1⟩, h⟩ := chk_some h
  replace h := Option.some.inj h
  subst h hb
  refine .inl ⟨⟨_, Tryz.func147, by kernel_rfl, by kernel_rfl⟩, fun F w vals hgw hl hr => ?_⟩
  obtain ⟨v, u, rfl, h2, h3⟩ := vals2 hl hr
  cases h2
  cases h3
  obtain ⟨n, rfl⟩ : ∃ n : Nat, a0 = n := ⟨a0.toNat, by omega⟩
  refine (formatUint n (by omega) w (tab_E hgw)).mono fun e w' ⟨he, hb⟩ => ⟨_, F, he, hb, fun _ _ h => h, fun b o h => ⟨Nat.lt_of_lt_of_le (hgw.fin b o h) hb.size, .inl h⟩, .str _ _ ?_, fun h => by cases h⟩
  have : (Lib.decDigits n).length ≤ 20 := by
    rw [Lib.decDigits_length]
    exact nDigits_le 19 _ (Nat.lt_of_lt_of_le (show n < 18446744073709551616 by omega) (Nat.le_of_ble_eq_true rfl))
  unfold maxLen
  omega
theorem rep_texts {F : Nat → Nat → Prop} {w : World} {g cap : Nat} {cs : Array Value} {t : TypeId} {fz : Nat × Nat} (ps : List ByteArray) (hb : w.heap[g]? = some (.cells cs t fz)) (hc : ps.length ≤ cap) (hm : cap ≤ maxLen)
    (hcs : ∀ (i : Nat) (x : ByteArray), ps[i]? = some x → cs[i]? = some (.string x)) (hs : ∀ x, x ∈ ps → x.size ≤ maxLen) (hF : ∀ o, F g o) : Rep F w (fun _ => none) (.slice (some ⟨g, 0, none⟩) ps.length cap) (.list 1 ((ps.map (·.data.toList)).map AV.str)) := by
  have key : ∀ (i : Nat) (e : AV) (j : Nat) (c : AV), ((ps.map (·.data.toList)).map AV.str)[i]? = some e → e.cells[j]? = some c → ∃ x, ps[i]? = some x ∧ j = 0 ∧ c = AV.str x.data.toList := fun i e j c he hc => by
    rw [List.getElem?_map, List.getElem?_map] at he
    cases hx : ps[i]? with
    | none => rw [hx] at he; cases he
    | some x =>
      rw [hx] at he
      simp only [Option.map_some, Option.some.injEq] at he
      subst he
      match j, hc with
      | 0, hc => cases hc; exact ⟨x, rfl, rfl, rfl⟩
  refine .list _ g 0 ps.length cap 1 _ (fun i _ => .string (ps.getD i default)) (by simp) hc hm (fun e he => ?_) (fun j _ => by simpa using hF j) (fun i e j c he hc => ?_) (fun i e j c he hc => ?_)
  · simp only [List.map_map, List.mem_map] at he
    obtain ⟨x, _, rfl⟩ := he
    rfl
  · obtain ⟨x, hx, rfl, rfl⟩ := key i e j c he hc
    refine ⟨?_, rfl⟩
    simp only [World.cell?, hb, List.getD, hx, Option.getD_some]
    simpa using hcs i x hx
  · obtain ⟨x, hx, rfl, rfl⟩ := key i e j c he hc
    simp only [List.getD, hx, Option.getD_some]
    exact .str _ x.data.toList (by have := hs x (List.mem_of_getElem? hx); rw [Array.length_toList]; exact this)
theorem splitB_size (sep : ByteArray) : ∀ (k : Nat) (s : ByteArray) (x : ByteArray), x ∈ Lib.splitB sep 0 k s → x.size ≤ s.size
  | 0, s, x, h => by simp [Lib.splitB] at h; subst h; exact Nat.le_refl _
  | k + 1, s, x, h => by
    unfold Lib.splitB at h
    split at h
    · simp at h; subst h; exact Nat.le_refl _
    · rcases List.mem_cons.1 h with rfl | h
      · rw [ByteArray.size_extract]; omega
      · have := splitB_size sep k _ x h
        rw [ByteArray.size_extract] at this
        omega
theorem row_alloc {E : Pm.Env} {F : Nat → Nat → Prop} {w : World} {cs : Array Value} {t : TypeId} {n cap : Nat} {ps : List ByteArray} (hgw : GoodW E F w) (hn : n = ps.length) (hc : ps.length ≤ cap) (hm : cap ≤ maxLen)
    (hcs : ∀ (i : Nat) (x : ByteArray), ps[i]? = some x → cs[i]? = some (.string x)) (hs : ∀ x, x ∈ ps → x.size ≤ maxLen) (e : Ending) (w' : World) (h : e = .returned (.slice (some ⟨w.heap.size, 0, none⟩) n cap) ∧ w' = w.alloc (.cells cs t)) :
    ∃ v F', e = .returned v ∧ Below w.heap.size w w' ∧ (∀ b o, F b o → F' b o) ∧ (∀ b o, F' b o → b < w'.heap.size ∧ (F b o ∨ w.heap.size ≤ b)) ∧
      Rep F' w' (fun _ => none) v (AV.list 1 ((ps.map (·.data.toList)).map AV.str)) ∧ (false = true → OwnRes w F' w' v (AV.list 1 ((ps.map (·.data.toList)).map AV.str))) := by
  obtain ⟨rfl, rfl⟩ := h
  subst hn
  have hz : (w.alloc (.cells cs t)).heap.size = w.heap.size + 1 := by simp
  refine ⟨_, fun b o => F b o ∨ b = w.heap.size, rfl, (Below.refl _ _).alloc (Nat.le_refl _) _, fun _ _ h => .inl h, fun b o h => ?_, rep_texts (t := t) (fz := (0, 0)) ps ?_ hc hm hcs hs (fun o => .inr rfl), fun h => by cases h⟩
  · rcases h with h | rfl
    · exact ⟨by have := hgw.fin b o h; omega, .inl h⟩
    · exact ⟨by omega, .inr (Nat.le_refl _)⟩
  · exact Array.getElem?_push_size ..
theorem strings_Split_ok (E : Pm.Env) [LaidM E] (a0 a1 : Bytes) (r : List Bytes) (h : strings_Split a0 a1 = some r) : FnR E Tryz.prog 139 [AV.str a0, AV.str a1] (AV.list 1 (r.map AV.str)) false := by
  obtain ⟨⟨h1, hs⟩, h⟩ := chk_some h
  replace h := Option.some.inj h
  subst h
  refine .inl ⟨⟨_, Tryz.func139, by kernel_rfl, by kernel_rfl⟩, fun F w vals hgw hl hr => ?_⟩
  obtain ⟨v, u, rfl, h2, h3⟩ := vals2 hl hr
  cases h2
  cases h3
  obtain ⟨m, hm⟩ := maxlen_E hgw
  have e : Lib.split a0 a1 = (Lib.splitB ⟨a1.toArray⟩ 0 (Lib.countB ⟨a0.toArray⟩ ⟨a1.toArray⟩) ⟨a0.toArray⟩).map (·.data.toList) := by rw [Lib.splitB_data]; rfl
  have hlen := Lib.splitB_all ⟨a1.toArray⟩ h1 0 _ ⟨a0.toArray⟩ rfl
  have hcle := Lib.countB_le ⟨a1.toArray⟩ h1 _ ⟨a0.toArray⟩ (Nat.le_refl _)
  have hsz : (⟨a0.toArray⟩ : ByteArray).size = a0.length := by simp [ByteArray.size]
  rw [e]
  refine (Tryz.strings_Split ⟨a0.toArray⟩ ⟨a1.toArray⟩ m w hs hm h1).mono fun e w' h => row_alloc hgw hlen.symm (by omega) (by unfold maxLen; omega) (fun i x hx => ?_) (fun x hx => ?_) e w' h
  · simp [hx]
  · have := splitB_size _ _ _ x hx
    unfold maxLen
    omega
theorem strings_SplitN_ok (E : Pm.Env) [LaidM E] (a0 a1 : Bytes) (a2 : Int) (r : List Bytes) (h : strings_SplitN a0 a1 a2 = some r) : FnR E Tryz.prog 136 [AV.str a0, AV.str a1, AV.int .i64 a2] (AV.list 1 (r.map AV.str)) false := by
  obtain ⟨⟨hn1, hn2, h1, hs⟩, h⟩ := chk_some h
  replace h := Option.some.inj h
  subst h
  obtain ⟨n, rfl⟩ : ∃ n : Nat, a2 = n := ⟨a2.toNat, by omega⟩
  refine .inl ⟨⟨_, Tryz.func136, by kernel_rfl, by kernel_rfl⟩, fun F w vals hgw hl hr => ?_⟩
  obtain ⟨v, u, x, rfl, h2, h3, h4⟩ := vals3 hl hr
  cases h2
  cases h3
  cases h4
  obtain ⟨m, hm⟩ := maxlen_E hgw
  have hsz : (⟨a0.toArray⟩ : ByteArray).size = a0.length := by simp [ByteArray.size]
  have e : Lib.splitN a0 a1 n = (Lib.splitB ⟨a1.toArray⟩ 0 (min n ((⟨a0.toArray⟩ : ByteArray).size + 1) - 1) ⟨a0.toArray⟩).map (·.data.toList) := by rw [Lib.splitB_data, hsz]; rfl
  have hlen := Lib.splitB_length_le ⟨a1.toArray⟩ 0 (min n ((⟨a0.toArray⟩ : ByteArray).size + 1) - 1) ⟨a0.toArray⟩
  rw [Int.toNat_natCast, e]
  refine (Tryz.strings_SplitN ⟨a0.toArray⟩ ⟨a1.toArray⟩ n m w hs hm h1 (by omega) (by omega)).mono fun e w' h => row_alloc hgw rfl (by omega) (by unfold maxLen; omega) (fun i x hx => ?_) (fun x hx => ?_) e w' h
  · have hlt := (List.getElem?_eq_some_iff.1 hx).1
    unfold Lib.cellsOf
    rw [List.getElem?_toArray, List.getElem?_append_left (by simpa using hlt)]
    simp [hx]
  · have := splitB_size _ _ _ x hx
    unfold maxLen
    omega
end Go.Proofs.YtommkfooolabhaaGreatDoor
