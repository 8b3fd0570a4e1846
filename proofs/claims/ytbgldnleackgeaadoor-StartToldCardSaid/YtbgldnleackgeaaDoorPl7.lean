/-
  Plain laws, 7: numbers' digits; fields without those of a name; fields that say how long a body is. FrameWith holds.
-/
import Derived.Test.YtbgldnleackgeaaDoorPl6
import Derived.Lib.ItoaNum
namespace Go.Proofs.YtbgldnleackgeaaDoor
open Go Go.Pm
set_option linter.unusedVariables false

theorem digs : ([48, 49, 50, 51, 52, 53, 54, 55, 56, 57, 97, 98, 99, 100, 101, 102] : Bytes).length = 16 := rfl
theorem dig_slc (k : Nat) (h : k < 10) : slc ([48, 49, 50, 51, 52, 53, 54, 55, 56, 57, 97, 98, 99, 100, 101, 102] : Bytes) (k : Int) (IntKind.u64.wrap ((k : Int) + (1 : Int))) = some [UInt8.ofNat (48 + k)] := by
  have : k = 0 ∨ k = 1 ∨ k = 2 ∨ k = 3 ∨ k = 4 ∨ k = 5 ∨ k = 6 ∨ k = 7 ∨ k = 8 ∨ k = 9 := by omega
  rcases this with rfl | rfl | rfl | rfl | rfl | rfl | rfl | rfl | rfl | rfl <;> rfl

def digV (x : Int × Bytes) : Bytes := bif (bif decide (x.1 > 0) then true else (x.2 == ([] : Bytes))) then Lib.decDigits x.1.toNat ++ x.2 else x.2
theorem Digits_eq (n : Nat) (hn : n < 18446744073709551616) : intarsiaref02_Digits (n : Int) 10 = some (Lib.decDigits n) := by
  unfold intarsiaref02_Digits
  have key := loopO_rec (body := intarsiaref02_Digits_b1 10) digV (fun x => 2 * x.1.toNat + (bif x.2 == ([] : Bytes) then 1 else 0)) (fun x => 0 ≤ x.1 ∧ x.1 < 18446744073709551616 ∧ x.1.toNat * 10 ^ x.2.length < 18446744073709551616) (fun x hx => ?_) ((n : Int), ([] : Bytes)) ⟨by simp, by simp; omega, by simp; omega⟩
  · rw [key, Option.bind_some]
    unfold digV
    have e : (bif decide ((n : Int) > 0) then true else (([] : Bytes) == ([] : Bytes))) = true := by cases decide ((n : Int) > 0) <;> rfl
    dsimp only
    rw [e, cond_true, List.append_nil, Int.toNat_natCast]
  · obtain ⟨x, s⟩ := x
    dsimp only at hx ⊢
    obtain ⟨h0, h1, h2⟩ := hx
    obtain ⟨k, rfl⟩ : ∃ k : Nat, x = k := ⟨x.toNat, by omega⟩
    rw [Int.toNat_natCast] at h2
    unfold intarsiaref02_Digits_b1 digV
    dsimp only
    cases hc : (bif decide ((k : Int) > 0) then true else (s == ([] : Bytes))) with
    | false => exact .inr rfl
    | true =>
      refine .inl ⟨(((k / 10 : Nat) : Int), [UInt8.ofNat (48 + k % 10)] ++ s), ?_, ⟨by show (0 : Int) ≤ ((k / 10 : Nat) : Int); omega, by show ((k / 10 : Nat) : Int) < _; omega, ?_⟩, ?_, ?_⟩
      · have hm : (k : Int).tmod 10 = ((k % 10 : Nat) : Int) := by rw [Int.tmod_eq_emod_of_nonneg (by omega)]; rfl
        have hd : (k : Int).tdiv 10 = ((k / 10 : Nat) : Int) := by rw [Int.tdiv_eq_ediv_of_nonneg (by omega)]; rfl
        have hs : s.length < 20 := by
          by_cases hk : k = 0
          · subst hk
            have : s = [] := by simpa using hc
            subst this; simp
          · refine Nat.lt_of_not_le fun hle => ?_
            have : 10 ^ 20 ≤ 10 ^ s.length := Nat.pow_le_pow_right (by omega) hle
            have : 1 * 10 ^ s.length ≤ k * 10 ^ s.length := Nat.mul_le_mul_right _ (by omega)
            have e20 : (10 : Nat) ^ 20 = 100000000000000000000 := by kernel_rfl
            omega
        have hw : IntKind.u64.wrap ((k % 10 : Nat) : Int) = ((k % 10 : Nat) : Int) := wrap_u64 (by omega) (by omega)
        rw [cond_true, hm, chk_pos ⟨rfl, hw⟩, chk_pos ⟨rfl, hw⟩, dig_slc _ (Nat.mod_lt _ (by omega)), Option.bind_some, cat_ok (by simp; unfold maxLen; omega), Option.bind_some, chk_pos (show ((10 : Int) == 0) = false from rfl), hd, wrap_u64 (by omega) (by omega)]
      · show ((k / 10 : Nat) : Int).toNat * 10 ^ ([UInt8.ofNat (48 + k % 10)] ++ s).length < _
        rw [Int.toNat_natCast, List.length_append, List.length_singleton, Nat.add_comm 1, Nat.pow_succ]
        have : k / 10 * (10 ^ s.length * 10) = (k / 10 * 10) * 10 ^ s.length := by rw [Nat.mul_comm (10 ^ s.length) 10, Nat.mul_assoc]
        rw [this]
        exact Nat.lt_of_le_of_lt (Nat.mul_le_mul_right _ (Nat.div_mul_le_self k 10)) h2
      · show 2 * ((k / 10 : Nat) : Int).toNat + _ < 2 * ((k : Nat) : Int).toNat + _
        rw [Int.toNat_natCast, Int.toNat_natCast]
        have e1 : (([UInt8.ofNat (48 + k % 10)] ++ s) == ([] : Bytes)) = false := rfl
        rw [e1, cond_false]
        by_cases hk : k = 0
        · subst hk
          have : s = [] := by simpa using hc
          subst this; simp
        · cases (s == ([] : Bytes)) <;> simp <;> omega
      · rw [cond_true, Int.toNat_natCast]
        by_cases h10 : k < 10
        · have e2 : k / 10 = 0 := by omega
          rw [e2]
          have e3 : k % 10 = k := by omega
          rw [Lib.decDigits, dif_pos h10, e3]
          rfl
        · have e3 : decide (((k / 10 : Nat) : Int) > 0) = true := by simp; omega
          rw [e3, cond_true, cond_true, Int.toNat_natCast]
          conv => lhs; rw [Lib.decDigits, dif_neg h10]
          rw [List.append_assoc]
theorem Dec_eq (n : Nat) (hn : n < 18446744073709551616) : number_Dec (n : Int) = some (Lib.decDigits n) := by
  unfold number_Dec strconv_FormatUint
  rw [chk_pos ⟨rfl, by omega, by omega⟩]
  rfl

theorem Remove_eq {l : List S_Field} {n : Bytes} (hl : l.length ≤ 1000000) (h : ∀ f, f ∈ l → FSmall f) (hn : n.length ≤ maxLen) : table_Remove l n = some (l.filter fun f => !isN n f) := by
  unfold table_Remove table_named
  rw [Option.bind_some, keep_eq (fun f => !isN n f) (fun f hf => ?_) hl, Option.bind_some]
  unfold table_Remove_1 table_named_1
  dsimp only
  rw [Same_eq (h f hf).name hn]
  rfl
theorem Add_eq {l : List S_Field} {n v : Bytes} (h : FRow l) (hf : FSmall (S_Field.mk n v)) : table_Add l n v = some (addB l (S_Field.mk n v)) := by
  unfold table_Add addB
  have hl := h.len
  rw [Right_eq (big (by omega)) h.small, Option.bind_some, gcall_val (fun _ => may_eq hf), Option.bind_some]
  have e : decide ((l.length : Int) ≥ (40 : Int)) = decide (l.length ≥ 40) := by simp; omega
  have hc : slices_Clip__api_Field_api_Field l = some l := by
    unfold slices_Clip__api_Field_api_Field slc
    rw [chk_pos (by omega)]
    simp
  rw [e, hc, Option.bind_some, app_ok (by simp; omega) (by omega), Option.bind_some]
  unfold rightB
  cases hr : (decide (l.length ≤ 40) && l.all mayB) <;> cases mayB (S_Field.mk n v)
  · rfl
  · rfl
  · rfl
  · have : l.length ≤ 40 := by simp at hr; exact hr.1
    have e2 : decide (l.length ≥ 40) = (l.length == 40) := by rw [Bool.eq_iff_iff, beq_iff_eq, decide_eq_true_eq]; omega
    rw [e2]
    cases (l.length == 40) <;> rfl

theorem Like_refl {l : List S_Field} (hl : l.length ≤ maxLen) : intarsiaref04_Like l l = some true := by
  unfold intarsiaref04_Like
  have hf : ∀ m : List S_Field, foldE (β := Unit) (ρ := Bool) (fun _ _ => .inl ()) (fun _ => true) m () = true := by
    intro m
    induction m with
    | nil => rfl
    | cons x m ih => exact ih
  have key := loop_list (body := intarsiaref04_Like_b1 l l) l (fun i (_ : Unit) => (i : Int)) (fun _ _ => .inl ()) (fun _ => true) (fun _ _ => True) (fun i b x hx hi => ?_) (fun b hi => ?_) () trivial
  · rw [show ((l.length : Int) != (l.length : Int)) = false by simp, cond_false]
    exact key.trans (by rw [hf])
  · have hlt := lt_of_get hx
    refine .inl ⟨(), rfl, ?_, trivial⟩
    unfold intarsiaref04_Like_b1
    rw [dlt_true hlt, cond_true, idx_at hx, Option.bind_some, Option.bind_some, wrap_inc hlt hl]
    simp
  · unfold intarsiaref04_Like_b1
    rw [dlt_self]; rfl

/-- Fields that say how long a body is. -/
def fld (b : S_Body) : S_Field := bif b.Kind == 1 then S_Field.mk nCL (Lib.decDigits b.Size.toNat) else S_Field.mk nTE chunked
def withB (l : List S_Field) (b : S_Body) : List S_Field × Int :=
  bif (!rightB l) || (decide (b.Size < 0) || (decide (b.Size > 20000) || (decide (b.Kind < 0) || decide (b.Kind > 3)))) then ([], 1) else
  bif b.Kind == 1 || b.Kind == 2 then addB (rest l) (fld b) else (rest l, 0)

theorem digits_le {n : Nat} (h : n ≤ 20000) : (Lib.decDigits n).length ≤ 5 := by
  rw [Lib.decDigits_length]
  have : ∀ (k u : Nat), u < 10 ^ (k + 1) → Lib.nDigits u ≤ k + 1 := by
    intro k
    induction k with
    | zero => intro u h; rw [Lib.nDigits_small (by omega)]; omega
    | succ k ih =>
      intro u h
      by_cases h10 : u < 10
      · rw [Lib.nDigits_small h10]; omega
      · rw [Lib.nDigits_big h10]
        have := ih (u / 10) (by
          have : u < 10 ^ (k + 1) * 10 := by rw [← Nat.pow_succ]; exact h
          omega)
        omega
  exact this 4 n (by simp; omega)
theorem rem_rest {l : List S_Field} (h : FRow l) : (table_Remove l nCL) = some (l.filter fun f => !isN nCL' f) ∧ (table_Remove (l.filter fun f => !isN nCL' f) nTE) = some (rest l) := by
  have hl := h.len
  have h2 := h.filter fun f => !isN nCL' f
  have hl2 := h2.len
  refine ⟨?_, ?_⟩
  · rw [Remove_eq (by omega) h.small (big (by decide)), isN_low (show lower nCL = lower nCL' by kernel_rfl)]
  · rw [Remove_eq (by omega) h2.small (big (by decide)), isN_low (show lower nTE = lower nTE' by kernel_rfl)]; rfl
theorem rest_row {l : List S_Field} (h : FRow l) : FRow (rest l) := (h.filter _).filter _

theorem fld_small (b : S_Body) (h : b.Size ≤ 20000) : FSmall (fld b) := by
  have h1 := digits_le (n := b.Size.toNat) (by omega)
  unfold fld
  cases (b.Kind == 1) with
  | true => exact ⟨big (Nat.le_of_ble_eq_true rfl), big (by show (Lib.decDigits _).length ≤ _; omega)⟩
  | false => exact ⟨big (Nat.le_of_ble_eq_true rfl), big (Nat.le_of_ble_eq_true rfl)⟩

theorem With_eq {l : List S_Field} {b : S_Body} (h : FRow l) : frame_With l b = some (withB l b) := by
  have hl := h.len
  unfold frame_With withB
  rw [Right_eq (big (by omega)) h.small, Option.bind_some]
  cases hr : rightB l with
  | false => rfl
  | true =>
    cases h1 : decide (b.Size < 0) with
    | true => rfl
    | false =>
      cases h2 : decide (b.Size > 20000) with
      | true => rfl
      | false =>
        cases h3 : decide (b.Kind < 0) with
        | true => rfl
        | false =>
          cases h4 : decide (b.Kind > 3) with
          | true => rfl
          | false =>
            simp only [Bool.not_true, cond_false, cond_true, Bool.or_false, Bool.false_or]
            have hs0 : 0 ≤ b.Size := by simpa using h1
            have hs1 : b.Size ≤ 20000 := by simpa using h2
            have r1 := (rem_rest h).1
            have r2 := (rem_rest h).2
            unfold nCL at r1
            unfold nTE at r2
            rw [r1, Option.bind_some, r2, Option.bind_some]
            have hf := fld_small b hs1
            unfold fld at hf ⊢
            cases hk : (b.Kind == 1) with
            | true =>
              rw [hk] at hf
              simp only [cond_true] at hf ⊢
              rw [wrap_u64 hs0 (by omega)]
              have e : b.Size = ((b.Size.toNat : Nat) : Int) := by omega
              rw [e, Dec_eq _ (by omega), Option.bind_some, Int.toNat_natCast]
              have ha := Add_eq (rest_row h) hf
              unfold nCL at ha
              rw [ha]
              rfl
            | false =>
              rw [hk] at hf
              simp only [cond_false] at hf ⊢
              cases hk2 : (b.Kind == 2) with
              | true =>
                simp only [cond_true]
                have ha := Add_eq (rest_row h) hf
                unfold nTE chunked at ha
                rw [ha]
                rfl
              | false => rfl

theorem refWith_eq {l : List S_Field} {b : S_Body} (h : FRow l) : intarsiaref09_With l b = some (withB l b) := by
  have hl := h.len
  unfold intarsiaref09_With withB
  rw [refRight_eq (big (by omega)) h.small, Option.bind_some]
  cases hr : rightB l with
  | false => rfl
  | true =>
    cases h1 : decide (b.Size < 0) with
    | true => rfl
    | false =>
      cases h2 : decide (b.Size > 20000) with
      | true => rfl
      | false =>
        cases h3 : decide (b.Kind < 0) with
        | true => rfl
        | false =>
          cases h4 : decide (b.Kind > 3) with
          | true => rfl
          | false =>
            simp only [Bool.not_true, cond_false, cond_true, Bool.or_false, Bool.false_or]
            have hs0 : 0 ≤ b.Size := by simpa using h1
            have hs1 : b.Size ≤ 20000 := by simpa using h2
            rw [(refRem2 h).1, Option.bind_some, (refRem2 h).2, Option.bind_some]
            have hf := fld_small b hs1
            unfold fld at hf ⊢
            cases hk : (b.Kind == 1) with
            | true =>
              rw [hk] at hf
              simp only [cond_true] at hf ⊢
              rw [wrap_u64 hs0 (by omega)]
              have e : b.Size = ((b.Size.toNat : Nat) : Int) := by omega
              rw [e, Digits_eq _ (by omega), Option.bind_some, Int.toNat_natCast]
              have ha := refAdd_eq (rest_row h) hf
              unfold nCL at ha
              rw [ha]
              rfl
            | false =>
              rw [hk] at hf
              simp only [cond_false] at hf ⊢
              cases hk2 : (b.Kind == 2) with
              | true =>
                simp only [cond_true]
                have ha := refAdd_eq (rest_row h) hf
                unfold nTE chunked at ha
                rw [ha]
                rfl
              | false => rfl

theorem withB_len {l : List S_Field} {b : S_Body} (h : FRow l) : (withB l b).1.length ≤ 200000 := by
  have hl := h.len
  have hr := rest_le l
  unfold withB addB
  cases ((!rightB l) || (decide (b.Size < 0) || (decide (b.Size > 20000) || (decide (b.Kind < 0) || decide (b.Kind > 3))))) with
  | true => simp
  | false =>
    cases (b.Kind == 1 || b.Kind == 2) with
    | false => simp only [cond_false]; omega
    | true =>
      cases ((!rightB (rest l)) || !mayB (fld b)) with
      | true => simp
      | false => cases ((rest l).length == 40) <;> simp <;> omega

theorem FrameWith_true (l : List S_Field) (b : S_Body) : intarsialaw09_FrameWith l b = some true := by
  unfold intarsialaw09_FrameWith
  have h := cutL_row l
  rw [few_eq, Option.bind_some, With_eq h, Option.bind_some, refWith_eq h, Option.bind_some, alive_eq, Option.bind_some, gcall_tt rfl, Like_refl (big (by have := withB_len (b := b) h; omega)), Option.bind_some]
  simp
end Go.Proofs.YtbgldnleackgeaaDoor
