/-
  Plain laws, 8: numbers that are written are read again; FrameBack holds.
-/
import Derived.Test.YtbgldnleackgeaaDoorPl7
namespace Go.Proofs.YtbgldnleackgeaaDoor
open Go Go.Pm
set_option linter.unusedVariables false

/-! ### Digits are read as their number -/
theorem digit_dig (k : Nat) (h : k < 10) : isDig (UInt8.ofNat (48 + k)) = true ∧ dv (UInt8.ofNat (48 + k)) = k := by
  have : k = 0 ∨ k = 1 ∨ k = 2 ∨ k = 3 ∨ k = 4 ∨ k = 5 ∨ k = 6 ∨ k = 7 ∨ k = 8 ∨ k = 9 := by omega
  rcases this with rfl | rfl | rfl | rfl | rfl | rfl | rfl | rfl | rfl | rfl <;> exact ⟨rfl, rfl⟩
theorem digits_ind {P : Nat → Prop} (h0 : ∀ n, n < 10 → P n) (h1 : ∀ n, ¬ n < 10 → P (n / 10) → P n) (n : Nat) : P n := by
  induction n using Nat.strongRecOn with
  | ind n ih =>
    by_cases h : n < 10
    · exact h0 n h
    · exact h1 n h (ih (n / 10) (by omega))
theorem digits_lo {n : Nat} (h : n < 10) : Lib.decDigits n = [UInt8.ofNat (48 + n)] := Lib.decDigits_one h
theorem digits_hi {n : Nat} (h : ¬ n < 10) : Lib.decDigits n = Lib.decDigits (n / 10) ++ [UInt8.ofNat (48 + n % 10)] := by rw [Lib.decDigits, dif_neg h]
theorem digits_all (n : Nat) : (Lib.decDigits n).all isDig = true := by
  refine digits_ind (P := fun n => (Lib.decDigits n).all isDig = true) (fun n h => ?_) (fun n h ih => ?_) n
  · rw [digits_lo h, List.all_cons, (digit_dig n h).1]; rfl
  · rw [digits_hi h, List.all_append, ih, List.all_cons, (digit_dig (n % 10) (by omega)).1]; rfl
theorem digits_ne (n : Nat) : (Lib.decDigits n == ([] : Bytes)) = false := by
  by_cases h : n < 10
  · rw [digits_lo h]; rfl
  · rw [digits_hi h]
    cases Lib.decDigits (n / 10) <;> rfl
theorem valF_append : ∀ (s t : Bytes) (z : Int), valF (s ++ t) z = valF t (valF s z)
  | [], _, _ => rfl
  | x :: s, t, z => valF_append s t _
theorem digits_val (n : Nat) : valF (Lib.decDigits n) 0 = n := by
  refine digits_ind (P := fun n => valF (Lib.decDigits n) 0 = n) (fun n h => ?_) (fun n h ih => ?_) n
  · rw [digits_lo h]
    show (0 : Int) * 10 + dv _ = _
    rw [(digit_dig n h).2]; omega
  · rw [digits_hi h, valF_append, ih]
    show ((n / 10 : Nat) : Int) * 10 + dv _ = _
    rw [(digit_dig (n % 10) (by omega)).2]; omega
theorem over_append : ∀ (s t : Bytes) (z : Int), over s z = false → over (s ++ t) z = over t (valF s z)
  | [], _, _, _ => rfl
  | x :: s, t, z, h => by
    unfold over at h
    cases hd : decide (z * 10 + dv x > 1099511627776) with
    | true => rw [hd] at h; cases h
    | false =>
      rw [hd] at h
      show (bif decide (z * 10 + dv x > 1099511627776) then true else over (s ++ t) (z * 10 + dv x)) = _
      rw [hd]
      exact over_append s t _ h
theorem digits_over (n : Nat) (h : n ≤ 1099511627776) : over (Lib.decDigits n) 0 = false := by
  revert h
  refine digits_ind (P := fun n => n ≤ 1099511627776 → over (Lib.decDigits n) 0 = false) (fun n h _ => ?_) (fun n h ih hn => ?_) n
  · rw [digits_lo h]
    show (bif decide ((0 : Int) * 10 + dv _ > 1099511627776) then true else false) = false
    rw [(digit_dig n h).2, show decide ((0 : Int) * 10 + (n : Int) > 1099511627776) = false by simp; omega]; rfl
  · rw [digits_hi h, over_append _ _ _ (ih (by omega)), digits_val]
    show (bif decide (((n / 10 : Nat) : Int) * 10 + dv _ > 1099511627776) then true else false) = false
    rw [(digit_dig (n % 10) (by omega)).2, show decide (((n / 10 : Nat) : Int) * 10 + ((n % 10 : Nat) : Int) > 1099511627776) = false by simp; omega]; rfl
theorem dec_digits {n : Nat} (h : n ≤ 1099511627776) : dec (Lib.decDigits n) = ((n : Int), 0) := by
  unfold dec decR
  rw [digits_ne, digits_all, digits_over n h, digits_val]
  rfl

/-! ### Fields that are made -/
theorem dropWhile_none {p : UInt8 → Bool} : ∀ {s : Bytes}, s.any p = false → s.dropWhile p = s
  | [], _ => rfl
  | x :: s, h => by
    rw [List.any_cons, Bool.or_eq_false_iff] at h
    rw [List.dropWhile_cons_of_neg (by rw [h.1]; exact Bool.false_ne_true)]
theorem trim_none {s : Bytes} (h : s.any blank = false) : trim s = s := by
  have h2 : s.reverse.any blank = false := by rw [List.any_reverse]; exact h
  unfold trim dropL dropR
  rw [dropWhile_none h2, List.reverse_reverse, dropWhile_none h]
theorem any_none {p q : UInt8 → Bool} (hpq : ∀ b, p b = true → q b = false) : ∀ {s : Bytes}, s.all p = true → s.any q = false
  | [], _ => rfl
  | x :: s, h => by
    rw [List.all_cons, Bool.and_eq_true] at h
    rw [List.any_cons, hpq x h.1, any_none hpq h.2]; rfl
theorem dig_plain (b : UInt8) (h : isDig b = true) : blank b = false ∧ ctlB b = false := by
  have := byte_all (p := fun b => !isDig b || (!blank b && !ctlB b)) (by kernel_rfl) b
  rw [h] at this
  simpa using this
theorem fld_may {b : S_Body} (h1 : b.Size ≤ 20000) : mayB (fld b) = true := by
  unfold fld
  cases (b.Kind == 1) with
  | false => exact (show mayB (S_Field.mk nTE chunked) = true by kernel_rfl)
  | true =>
    have ha := digits_all b.Size.toNat
    have hl := digits_le (n := b.Size.toNat) (by omega)
    unfold mayB
    show (tokenB nCL && ((trim (Lib.decDigits b.Size.toNat) == Lib.decDigits b.Size.toNat) && (decide ((Lib.decDigits b.Size.toNat).length ≤ 1000) && !((Lib.decDigits b.Size.toNat).any ctlB)))) = true
    rw [trim_none (any_none (fun b h => (dig_plain b h).1) ha), any_none (fun b h => (dig_plain b h).2) ha, show tokenB nCL = true by kernel_rfl]
    simp; omega

theorem rest_mem {l : List S_Field} {f : S_Field} (h : f ∈ rest l) : f ∈ l := by
  unfold rest at h
  rw [List.mem_filter, List.mem_filter] at h
  exact h.1.1
theorem rest_rest (l : List S_Field) : rest (rest l) = rest l := by
  unfold rest
  simp only [List.filter_filter]
  refine congrArg (List.filter · l) (funext fun f => ?_)
  cases isN nCL' f <;> cases isN nTE' f <;> rfl
theorem rest_vals (l : List S_Field) : valsN (rest l) nTE = [] ∧ valsN (rest l) nCL = [] := by
  have h1 : isN nTE = isN nTE' := isN_low (show lower nTE = lower nTE' by kernel_rfl)
  have h2 : isN nCL = isN nCL' := isN_low (show lower nCL = lower nCL' by kernel_rfl)
  unfold valsN rest
  rw [h1, h2]
  refine ⟨?_, ?_⟩
  · rw [List.map_eq_nil_iff, List.filter_filter, List.filter_eq_nil_iff]
    intro f _
    cases isN nTE' f <;> simp
  · rw [List.map_eq_nil_iff, List.filter_filter, List.filter_filter, List.filter_eq_nil_iff]
    intro f _
    cases isN nCL' f <;> simp
theorem rightB_rest {l : List S_Field} (h : rightB l = true) : rightB (rest l) = true := by
  unfold rightB at h ⊢
  rw [Bool.and_eq_true] at h ⊢
  have := rest_le l
  have h1 : l.length ≤ 40 := by simpa using h.1
  refine ⟨by simp; omega, ?_⟩
  rw [List.all_eq_true] at h ⊢
  intro f hf
  unfold rest at hf
  rw [List.mem_filter, List.mem_filter] at hf
  exact h.2 f hf.1.1

/-- What With gives, where it gives fields. -/
structure Made (l : List S_Field) (b : S_Body) (x : List S_Field) : Prop where
  right : rightB x = true
  rest : rest x = rest l
  size0 : 0 ≤ b.Size
  size1 : b.Size ≤ 20000
  kind0 : 0 ≤ b.Kind
  kind3 : b.Kind ≤ 3
  te : valsN x nTE = bif b.Kind == 2 then [chunked] else []
  cl : valsN x nCL = bif b.Kind == 1 then [Lib.decDigits b.Size.toNat] else []
  len : x.length ≤ 41
  mem : ∀ f, f ∈ x → f ∈ l ∨ f = fld b
theorem vals_snoc_hit (l : List S_Field) (f : S_Field) (n : Bytes) (h : isN n f = true) : valsN (l ++ [f]) n = valsN l n ++ [f.Value] := by
  unfold valsN
  rw [List.filter_append]
  simp [h]
theorem fld_names (b : S_Body) : (isN nCL (fld b) = (b.Kind == 1)) ∧ (isN nTE (fld b) = !(b.Kind == 1)) ∧ ((isN nCL' (fld b) || isN nTE' (fld b)) = true) := by
  unfold fld
  cases (b.Kind == 1) with
  | true => exact ⟨(show isN nCL (S_Field.mk nCL []) = true by kernel_rfl), (show isN nTE (S_Field.mk nCL []) = false by kernel_rfl), (show (isN nCL' (S_Field.mk nCL []) || isN nTE' (S_Field.mk nCL [])) = true by kernel_rfl)⟩
  | false => exact ⟨(show isN nCL (S_Field.mk nTE []) = false by kernel_rfl), (show isN nTE (S_Field.mk nTE []) = true by kernel_rfl), (show (isN nCL' (S_Field.mk nTE []) || isN nTE' (S_Field.mk nTE [])) = true by kernel_rfl)⟩

theorem withB_cases (l : List S_Field) (b : S_Body) : ((withB l b).1 = [] ∧ ((withB l b).2 != 0) = true) ∨ ((withB l b).2 = 0 ∧ Made l b (withB l b).1) := by
  unfold withB
  cases hr : rightB l with
  | false => exact .inl ⟨rfl, rfl⟩
  | true =>
    cases h1 : decide (b.Size < 0) with
    | true => exact .inl ⟨rfl, rfl⟩
    | false =>
      cases h2 : decide (b.Size > 20000) with
      | true => exact .inl ⟨rfl, rfl⟩
      | false =>
        cases h3 : decide (b.Kind < 0) with
        | true => exact .inl ⟨rfl, rfl⟩
        | false =>
          cases h4 : decide (b.Kind > 3) with
          | true => exact .inl ⟨rfl, rfl⟩
          | false =>
            have s0 : 0 ≤ b.Size := by simpa using h1
            have s1 : b.Size ≤ 20000 := by simpa using h2
            have k0 : 0 ≤ b.Kind := by simpa using h3
            have k3 : b.Kind ≤ 3 := by simpa using h4
            have hrr := rightB_rest hr
            obtain ⟨v1, v2⟩ := rest_vals l
            have hlen : (rest l).length ≤ 40 := by unfold rightB at hrr; simp at hrr; exact hrr.1
            simp only [Bool.not_true, Bool.or_self, cond_false]
            cases hk : (b.Kind == 1 || b.Kind == 2) with
            | false =>
              rw [Bool.or_eq_false_iff] at hk
              exact .inr ⟨rfl, hrr, rest_rest l, s0, s1, k0, k3, by rw [hk.2]; exact v1, by rw [hk.1]; exact v2, by show (rest l).length ≤ 41; omega, fun f hf => .inl (rest_mem hf)⟩
            | true =>
              unfold addB
              rw [hrr, fld_may s1]
              simp only [Bool.not_true, Bool.or_self, cond_false, cond_true]
              cases h40 : ((rest l).length == 40) with
              | true => exact .inl ⟨rfl, rfl⟩
              | false =>
                have hne : ¬ (rest l).length = 40 := by simpa using h40
                obtain ⟨f1, f2, f3⟩ := fld_names b
                refine .inr ⟨rfl, ?_, ?_, s0, s1, k0, k3, ?_, ?_, by simp; omega, fun f hf => ?_⟩
                · unfold rightB at hrr ⊢
                  rw [Bool.and_eq_true] at hrr
                  rw [cond_false, List.all_append, hrr.2, List.length_append]
                  simp [fld_may s1]; omega
                · rw [cond_false, rest_snoc, f3, rest_rest]; simp
                · rw [cond_false]
                  cases hk1 : (b.Kind == 1) with
                  | true =>
                    have : b.Kind = 1 := by simpa using hk1
                    rw [vals_snoc _ _ _ (by rw [f2, hk1]; rfl), v1, this]; rfl
                  | false =>
                    rw [hk1, Bool.false_or] at hk
                    rw [vals_snoc_hit _ _ _ (by rw [f2, hk1]; rfl), v1, hk]
                    unfold fld
                    rw [hk1]; rfl
                · rw [cond_false]
                  cases hk1 : (b.Kind == 1) with
                  | true =>
                    rw [vals_snoc_hit _ _ _ (by rw [f1, hk1]), v2]
                    unfold fld
                    rw [hk1]; rfl
                  | false => rw [vals_snoc _ _ _ (by rw [f1, hk1]), v2]; rfl
                · rw [cond_false] at hf
                  rcases List.mem_append.1 hf with hf | hf
                  · exact .inl (rest_mem hf)
                  · rw [List.mem_singleton] at hf; exact .inr hf

theorem made_say {l x : List S_Field} {b : S_Body} (h : Made l b x) (minor : Int) (none_ : S_Body) (hm : (b.Kind == 2 && minor == 0) = false) :
    sayB minor x none_ = (bif b.Kind == 1 then B 1 b.Size else bif b.Kind == 2 then B 2 0 else none_, 0) := by
  unfold sayB
  rw [h.te, h.cl]
  cases h1 : (b.Kind == 1) with
  | true =>
    have e : b.Kind = 1 := by simpa using h1
    have s0 := h.size0
    have s1 := h.size1
    rw [e]
    show foldE sayStep (sayFin none_) [Lib.decDigits b.Size.toNat] none = (B 1 b.Size, 0)
    rw [foldE_cons]
    unfold sayStep sizeOf
    rw [dec_digits (n := b.Size.toNat) (by omega)]
    show sayFin none_ (some ((b.Size.toNat : Nat) : Int)) = _
    rw [show ((b.Size.toNat : Nat) : Int) = b.Size by omega]
    show ((bif bif decide (b.Size < 0) then true else decide (b.Size > 20000) then (B 0 0, 2) else (B 1 b.Size, 0)) : S_Body × Int) = _
    rw [show decide (b.Size < 0) = false by simp; omega, show decide (b.Size > 20000) = false by simp; omega]
    rfl
  | false =>
    cases h2 : (b.Kind == 2) with
    | true =>
      rw [h2, Bool.true_and] at hm
      show (bif decide (([] : List Bytes).length > 0) || (minor == 0 || !(lower (Lib.join [chunked] sep) == chunked)) then (B 0 0, 32) else (B 2 0, 0)) = _
      rw [hm, show (lower (Lib.join [chunked] sep) == chunked) = true by kernel_rfl]
      rfl
    | false => rfl

theorem Made.row {l x : List S_Field} {b : S_Body} (h : Made l b x) (hl : FRow l) : FRow x := by
  refine ⟨by have := h.len; omega, fun f hf => ?_⟩
  rcases h.mem f hf with hf | rfl
  · exact hl.each f hf
  · have s1 := h.size1
    have h1 := digits_le (n := b.Size.toNat) (by omega)
    unfold fld
    cases (b.Kind == 1) with
    | true => exact ⟨Nat.le_of_ble_eq_true rfl, by show (Lib.decDigits _).length ≤ _; omega⟩
    | false => exact ⟨Nat.le_of_ble_eq_true rfl, Nat.le_of_ble_eq_true rfl⟩

theorem FrameBack_true (s : S_Start) (l : List S_Field) (b : S_Body) : intarsialaw09_FrameBack s l b = some true := by
  unfold intarsialaw09_FrameBack
  have h := cutL_row l
  have hs := cutS_small s
  rw [small_eq, Option.bind_some, few_eq, Option.bind_some, With_eq h, Option.bind_some]
  have hwl := withB_len (b := b) h
  generalize hw : withB (cutL l) b = w at hwl
  generalize hs' : cutS s = s' at hs
  rcases withB_cases (cutL l) b with ⟨h1, h2⟩ | ⟨h1, h2⟩
  · rw [hw] at h1 h2
    rw [h2, cond_true, alive_eq, Option.bind_some, h1]; rfl
  · rw [hw] at h1 h2
    rw [h1, show ((0 : Int) != (0 : Int)) = false from rfl, cond_false]
    have hx := h2.row h
    rw [(refRem2 hx).1, Option.bind_some, (refRem2 hx).2, Option.bind_some, (refRem2 h).1, Option.bind_some, (refRem2 h).2, Option.bind_some, h2.rest, Like_refl (big (by have := (rest_row h).len; omega)), Option.bind_some]
    rw [alive_eq, gcall_tt (show (!!true) = true from rfl), Option.bind_some]
    simp only [Bool.not_true, cond_false]
    rw [refSRight_eq hs, Option.bind_some]
    cases hst : startB s' with
    | false => rfl
    | true =>
      cases hm : (b.Kind == 2 && s'.Minor == 0) with
      | true =>
        rw [Bool.and_eq_true] at hm
        rw [hm.1, hm.2]; rfl
      | false =>
        have e : (bif (b.Kind == 2) then (s'.Minor == 0) else false) = false := by
          rw [← hm]; cases (b.Kind == 2) <;> rfl
        rw [e]
        simp only [Bool.not_true, cond_false]
        rw [Request_eq hs hx, Answer_eq hs hx]
        simp only [Option.bind_some]
        have k0 := h2.kind0
        have k3 := h2.kind3
        have hr := h2.right
        cases hc : (s'.Code == 0) with
        | true =>
          have e1 : reqB s' w.1 = sayB s'.Minor w.1 (B 0 0) := by
            unfold reqB
            have : (s'.Code != 0) = false := by simp at hc ⊢; exact hc
            rw [hst, hr, this]; rfl
          rw [e1, made_say h2 _ _ hm]
          have : b.Kind = 0 ∨ b.Kind = 1 ∨ b.Kind = 2 ∨ b.Kind = 3 := by omega
          rcases this with hk | hk | hk | hk <;> rw [hk] <;> simp [B]
        | false =>
          have e1 : ansB s' w.1 [71, 69, 84] = (bif (decide (s'.Code < 200) || (s'.Code == 204 || s'.Code == 304)) then (B 0 0, 0) else sayB s'.Minor w.1 (B 3 0)) := by
            unfold ansB
            rw [hst, hr, hc, show (([71, 69, 84] : Bytes) == ([72, 69, 65, 68] : Bytes)) = false from rfl, Bool.or_false]; rfl
          rw [e1, made_say h2 _ _ hm]
          have : b.Kind = 0 ∨ b.Kind = 1 ∨ b.Kind = 2 ∨ b.Kind = 3 := by omega
          cases decide (s'.Code < 200) <;> cases (s'.Code == 204) <;> cases (s'.Code == 304) <;> rcases this with hk | hk | hk | hk <;> rw [hk] <;> simp [B]
end Go.Proofs.YtbgldnleackgeaaDoor
