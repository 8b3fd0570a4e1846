/-
  Plain laws of the plays, 1: what is always told; addresses, routes.
-/
import Derived.Test.YtkfoahoplndelaaGreatDoorPs0
import Derived.Laws.Runes
namespace Go.Proofs.YtkfoahoplndelaaGreatDoor
open Go Go.Pm
set_option linter.unusedVariables false
set_option maxRecDepth 100000

/-! ### It is told, and so -/
def Tot {α : Type} (o : Option α) (P : α → Prop) : Prop := ∃ x, o = some x ∧ P x
section
variable {α β : Type} {P : α → Prop} {Q : β → Prop}
theorem Tot.now {x : α} (h : P x) : Tot (some x) P := ⟨x, rfl, h⟩
theorem Tot.eq {o : Option α} {x : α} (h : o = some x) (hx : P x) : Tot o P := ⟨x, h, hx⟩
theorem Tot.bind {o : Option α} {f : α → Option β} (h : Tot o P) (k : ∀ x, P x → Tot (f x) Q) : Tot (o.bind f) Q := by
  obtain ⟨x, rfl, hx⟩ := h; exact k x hx
theorem Tot.mono {o : Option α} {P' : α → Prop} (h : Tot o P) (k : ∀ x, P x → P' x) : Tot o P' := by
  obtain ⟨x, h1, h2⟩ := h; exact ⟨x, h1, k x h2⟩
theorem Tot.br {b : Bool} {x y : Option α} (h1 : b = true → Tot x P) (h2 : b = false → Tot y P) : Tot (bif b then x else y) P := by
  cases b with
  | true => exact h1 rfl
  | false => exact h2 rfl
theorem Tot.guard [Inhabited α] {g : Bool} {o : Option α} (h : g = true → Tot o P) : Tot (gcall g o) (fun x => g = true → P x) := by
  cases g with
  | true => obtain ⟨x, h1, h2⟩ := h rfl; exact ⟨x, h1, fun _ => h2⟩
  | false => exact ⟨default, rfl, fun h => by cases h⟩
theorem Tot.chk {p : Prop} [Decidable p] {o : Option α} (hp : p) (h : Tot o P) : Tot (Pm.chk p o) P := by rw [chk_pos hp]; exact h
end
theorem loop_tot {σ ρ : Type} {body : σ → Option (σ ⊕ ρ)} (μ : σ → Nat) (Inv : σ → Prop) (Q : ρ → Prop)
    (h : ∀ x, Inv x → (∃ y, body x = some (.inl y) ∧ Inv y ∧ μ y < μ x) ∨ ∃ r, body x = some (.inr r) ∧ Q r) : ∀ x, Inv x → Tot (loopO body x) Q := by
  have key : ∀ n x, μ x ≤ n → Inv x → Tot (loopO body x) Q := by
    intro n
    induction n with
    | zero =>
      intro x hx hi
      rw [loopO_eq]
      rcases h x hi with ⟨y, h1, h2, h3⟩ | ⟨r, h1, h2⟩
      · omega
      · rw [h1]; exact ⟨r, rfl, h2⟩
    | succ n ih =>
      intro x hx hi
      rw [loopO_eq]
      rcases h x hi with ⟨y, h1, h2, h3⟩ | ⟨r, h1, h2⟩
      · rw [h1]; exact ih y (by omega) h2
      · rw [h1]; exact ⟨r, rfl, h2⟩
  exact fun x => key (μ x) x (Nat.le_refl _)
theorem slc_tot {α : Type} {l : List α} {a b : Int} (h : 0 ≤ a ∧ a ≤ b ∧ b ≤ (l.length : Int)) : Tot (slc l a b) (fun x => x = (l.drop a.toNat).take (b.toNat - a.toNat)) := by
  unfold slc; rw [chk_pos h]; exact ⟨_, rfl, rfl⟩

/-! ### Bytes found -/
theorem indexByte_range (s : Bytes) (c : UInt8) : Lib.indexByte s c = -1 ∨ (0 ≤ Lib.indexByte s c ∧ Lib.indexByte s c < (s.length : Int)) := by
  induction s with
  | nil => exact .inl rfl
  | cons b l ih =>
    unfold Lib.indexByte
    split
    · right; simp
    · split
      · exact .inl rfl
      · rename_i h1 h2
        have h2 : Lib.indexByte l c ≠ -1 := by simpa using h2
        right
        rcases ih with h | ⟨h3, h4⟩
        · exact absurd h h2
        · simp; omega
theorem sIndex_one (s : Bytes) (c : UInt8) : stringslite_Index s [c] = some (Lib.indexByte s c) := by
  unfold stringslite_Index
  have e1 : (((([c] : Bytes).length : Nat) : Int) == (0 : Int)) = false := rfl
  have e2 : (((([c] : Bytes).length : Nat) : Int) == (1 : Int)) = true := rfl
  rw [e1, e2, cond_false, cond_true]
  cases h : (([c] : Bytes) == s) with
  | true => rw [← eq_of_beq h]; simp [Lib.indexByte]
  | false =>
    rw [cond_false]
    show ((idx [c] ((0 : Nat) : Int)).bind _) = _
    rw [idx_at (x := c) rfl, Option.bind_some]
    show some (Lib.indexByte s (u8 (c.toNat : Int))) = _
    rw [u8_nat]
/-- A text at its first such byte. -/
def cutC (c : UInt8) : Bytes → Bytes × Bytes × Bool
  | [] => ([], [], false)
  | x :: s => bif x == c then ([], s, true) else (x :: (cutC c s).1, (cutC c s).2)
theorem cutC_index (c : UInt8) : ∀ (s : Bytes), (Lib.indexByte s c = -1 ∧ cutC c s = (s, [], false)) ∨ ∃ i : Nat, Lib.indexByte s c = (i : Int) ∧ i < s.length ∧ cutC c s = (s.take i, s.drop (i + 1), true)
  | [] => .inl ⟨rfl, rfl⟩
  | x :: s => by
    unfold Lib.indexByte cutC
    cases hx : (x == c) with
    | true => exact .inr ⟨0, rfl, by simp, by simp⟩
    | false =>
      rcases cutC_index c s with ⟨h1, h2⟩ | ⟨i, h1, h2, h3⟩
      · left; rw [h1, h2]; exact ⟨rfl, rfl⟩
      · right
        refine ⟨i + 1, ?_, by simpa using h2, by rw [h3]; simp⟩
        rw [h1]
        have : ((i : Int) == -1) = false := by simp
        simp [this]
theorem Cut_one {s : Bytes} (c : UInt8) (hs : s.length ≤ maxLen) : strings_Cut s [c] = some (cutC c s) := by
  unfold strings_Cut stringslite_Cut
  rw [sIndex_one, Option.bind_some]
  rcases cutC_index c s with ⟨h1, h2⟩ | ⟨i, h1, h2, h3⟩
  · rw [h1, h2]; rfl
  · rw [h1, h3]
    have e : decide ((i : Int) ≥ (0 : Int)) = true := by simp
    have e2 : IntKind.i64.wrap ((i : Int) + (((([c] : Bytes).length : Nat) : Int))) = ((i + 1 : Nat) : Int) := by
      rw [wrap_i64 (by simp; omega) (by unfold maxLen at hs; simp; omega)]; simp
    rw [e, cond_true, e2]
    have h4 : slc s 0 (i : Int) = some (s.take i) := by unfold slc; rw [chk_pos (by omega)]; simp
    have h5 : slc s ((i + 1 : Nat) : Int) (s.length : Int) = some (s.drop (i + 1)) := by
      unfold slc
      rw [chk_pos (by omega)]
      show some ((s.drop (i + 1)).take (s.length - (i + 1))) = _
      rw [List.take_of_length_le (by rw [List.length_drop]; exact Nat.le_refl _)]
    rw [h4, Option.bind_some, h5]; rfl
theorem cutC_le (c : UInt8) (s : Bytes) : (cutC c s).1.length ≤ s.length ∧ (cutC c s).2.1.length ≤ s.length := by
  rcases cutC_index c s with ⟨_, h⟩ | ⟨i, _, h1, h⟩
  · rw [h]; exact ⟨Nat.le_refl _, Nat.zero_le _⟩
  · rw [h]; simp; omega
theorem Contains_one (s : Bytes) (c : UInt8) : strings_Contains s [c] = some (decide (Lib.indexByte s c ≥ (0 : Int))) := by
  unfold strings_Contains strings_Index
  rw [sIndex_one]; rfl
theorem LastIndex_tot {s : Bytes} (c : Int) (hs : s.length ≤ maxLen) : Tot (strings_LastIndexByte s c) (fun r => -1 ≤ r ∧ r < (s.length : Int)) := by
  unfold strings_LastIndexByte
  refine Tot.bind (P := fun r => -1 ≤ r ∧ r < (s.length : Int)) ?_ (fun x hx => .now hx)
  unfold bytealg_LastIndexByteString
  refine loop_tot (fun x : Int => (x + 1).toNat) (fun x => -1 ≤ x ∧ x < (s.length : Int)) _ (fun x hx => ?_) _ (by rw [wrap_i64 (by omega) (by unfold maxLen at hs; omega)]; omega)
  unfold bytealg_LastIndexByteString_b1
  by_cases h : x ≥ 0
  · rw [decide_eq_true h, cond_true]
    obtain ⟨i, rfl⟩ : ∃ i : Nat, x = i := ⟨x.toNat, by omega⟩
    rw [idx_at (List.getElem?_eq_getElem (show i < s.length by omega)), Option.bind_some, wrap_i64 (by omega) (by unfold maxLen at hs; omega)]
    cases (((s[i]'(by omega)).toNat : Int) == c) with
    | true => exact .inr ⟨_, rfl, by omega⟩
    | false => exact .inl ⟨_, rfl, by omega, by omega⟩
  · rw [decide_eq_false h]; exact .inr ⟨_, rfl, by omega⟩

/-! ### Runes -/
theorem width_pos (s : Bytes) (i : Nat) : 1 ≤ widthAt s i := by
  unfold widthAt Utf8.decode
  dsimp only
  repeat' split
  all_goals simp
def qs : Bytes := [47, 63]
theorem IndexRune_qs (r : Int) : Tot (strings_IndexRune qs r) (fun _ => True) := by
  unfold strings_IndexRune
  refine .br (fun _ => .bind (P := fun _ => True) ⟨_, rfl, trivial⟩ fun x _ => .now trivial) fun hlt => .br (fun _ => ?_) fun _ => ?_
  · refine loop_tot (fun x => qs.length - x) (fun _ => True) _ (fun x _ => ?_) 0 trivial
    unfold strings_IndexRune_b1
    cases h : decide (x < qs.length) with
    | false => exact .inr ⟨_, rfl, trivial⟩
    | true =>
      have hx := of_decide_eq_true h
      rw [cond_true]
      cases (((runeAt qs x : Nat) : Int) == (65533 : Int)) with
      | true => exact .inr ⟨_, rfl, trivial⟩
      | false => exact .inl ⟨_, rfl, trivial, by have := width_pos qs x; omega⟩
  · have hval : unicode_utf8_ValidRune r = some (Utf8.valid r) := by
      unfold unicode_utf8_ValidRune Utf8.valid
      by_cases h1 : 0 ≤ r ∧ r < 55296
      · have e1 : decide ((0 : Int) ≤ r) = true := decide_eq_true h1.1
        have e2 : decide (r < (55296 : Int)) = true := decide_eq_true h1.2
        simp [e1, e2]
      · have e : (bif (decide ((0 : Int) ≤ r)) then (decide (r < (55296 : Int))) else false) = false := by
          cases h3 : decide ((0 : Int) ≤ r) with
          | false => rfl
          | true => have := of_decide_eq_true h3; simp; omega
        rw [e, cond_false]
        by_cases h2 : 57343 < r ∧ r ≤ 1114111
        · have e1 : decide ((57343 : Int) < r) = true := decide_eq_true h2.1
          have e2 : decide (r ≤ (1114111 : Int)) = true := decide_eq_true h2.2
          simp [e1, e2]; omega
        · have e : (bif (decide ((57343 : Int) < r)) then (decide (r ≤ (1114111 : Int))) else false) = false := by
            cases h3 : decide ((57343 : Int) < r) with
            | false => rfl
            | true => have := of_decide_eq_true h3; simp; omega
          rw [e, cond_false]
          refine congrArg some ?_
          symm
          simp; omega
    rw [hval, Option.bind_some]
    cases hv : Utf8.valid r with
    | false => exact .now trivial
    | true =>
      have h128 : 128 ≤ r := by
        unfold Utf8.valid at hv
        by_cases h : r < 128
        · exfalso
          have h0 : 0 ≤ r := by simp at hv; omega
          rw [decide_eq_true h0, decide_eq_true h] at hlt; cases hlt
        · omega
      obtain ⟨f1, f2, f3⟩ := encode_facts r hv h128
      have hl : (encB r).length = (Utf8.encode r).size := Array.length_toList ..
      have hw : IntKind.i64.wrap (((encB r).length : Int) - (1 : Int)) = (((encB r).length - 1 : Nat) : Int) := by rw [wrap_i64 (by omega) (by omega)]; omega
      have hlast : ∃ b : UInt8, (encB r)[(encB r).length - 1]? = some b ∧ 128 ≤ b.toNat := by
        refine ⟨(Utf8.encode r)[(Utf8.encode r).size - 1]'(by omega), ?_, f3 (by omega)⟩
        rw [hl]
        exact Lib.data_getElem? _ _ (by omega)
      obtain ⟨b, hb1, hb2⟩ := hlast
      show Tot (loopO (strings_IndexRune_b2 qs r) (IntKind.i64.wrap (((encB r).length : Int) - (1 : Int)))) _
      rw [loopO_eq]
      have hbody : ∃ z, strings_IndexRune_b2 qs r (IntKind.i64.wrap (((encB r).length : Int) - (1 : Int))) = some (.inr z) := by
        unfold strings_IndexRune_b2
        rw [hw]
        by_cases h2 : (encB r).length = 2
        · rw [h2] at hb1 ⊢
          have hb1' : idx (encB r) (((2 - 1 : Nat)) : Int) = some b := idx_at hb1
          have e1 : decide (((2 - 1 : Nat) : Int) < ((qs.length : Nat) : Int)) = true := rfl
          have e2 : idx qs (((2 - 1 : Nat)) : Int) = some 63 := rfl
          have e3 : (((63 : UInt8).toNat : Int) != (b.toNat : Int)) = true := by
            have : (63 : UInt8).toNat = 63 := rfl
            rw [this]; simp; omega
          rw [e1, cond_true, e2, Option.bind_some, hb1', Option.bind_some, e3, cond_true]
          have e4 : slc qs (IntKind.i64.wrap (((2 - 1 : Nat) : Int) + (1 : Int))) (qs.length : Int) = some [] := rfl
          rw [e4, Option.bind_some, Option.bind_some]
          exact ⟨_, rfl⟩
        · have : decide (((((encB r).length - 1 : Nat)) : Int) < ((qs.length : Nat) : Int)) = false := by
            have : qs.length = 2 := rfl
            rw [this]; simp; omega
          rw [this]; exact ⟨_, rfl⟩
      obtain ⟨z, hz⟩ := hbody
      rw [hz]
      exact .now trivial
def qset : List Bool := (List.range 256).map fun n => (UInt8.ofNat n == 47 || UInt8.ofNat n == 63)
theorem qset_eq : strings_makeASCIISet qs = some (qset, true) := by
  unfold strings_makeASCIISet
  exact loopO_some.2 ⟨3, by kernel_rfl⟩
theorem qset_get (b : UInt8) : ∃ v, strings_asciiSet_contains qset (b.toNat : Int) = some v := by
  unfold strings_asciiSet_contains
  have h := b.toNat_lt
  have hl : b.toNat < qset.length := by unfold qset; simp; omega
  rw [chk_pos (by omega), idx_at (List.getElem?_eq_getElem hl), Option.bind_some]
  exact ⟨_, rfl⟩
theorem IndexAny_tot {s : Bytes} (hs : s.length ≤ maxLen) : Tot (strings_IndexAny s [47, 63]) (fun r => -1 ≤ r ∧ r ≤ (s.length : Int)) := by
  show Tot (strings_IndexAny s qs) _
  unfold strings_IndexAny
  have e1 : (qs == ([] : Bytes)) = false := rfl
  have e2 : (((qs.length : Nat) : Int) == (1 : Int)) = false := rfl
  rw [e1, e2, cond_false, cond_false]
  unfold strings_shouldUseASCIISet
  rw [Option.bind_some]
  refine .br (fun _ => ?_) fun _ => ?_
  · rw [qset_eq, Option.bind_some]
    have hq : qset.length = 256 := by unfold qset; simp
    refine .chk hq (.chk (by show 0 < qset.length; omega) ?_)
    refine loop_tot (fun x : Int => s.length - x.toNat) (fun x => 0 ≤ x) _ (fun x hx => ?_) 0 (Int.le_refl _)
    unfold strings_IndexAny_b1
    obtain ⟨i, rfl⟩ : ∃ i : Nat, x = i := ⟨x.toNat, by omega⟩
    by_cases h : i < s.length
    · rw [dlt_true h, cond_true, idx_at (List.getElem?_eq_getElem h), Option.bind_some]
      obtain ⟨v, hv⟩ := qset_get s[i]
      rw [hv, Option.bind_some, wrap_inc h hs]
      cases v with
      | true => exact .inr ⟨_, rfl, by omega⟩
      | false => exact .inl ⟨_, rfl, by omega, by simp; omega⟩
    · rw [show decide ((i : Int) < (s.length : Int)) = false by simp; omega]
      exact .inr ⟨_, rfl, by omega⟩
  · refine loop_tot (fun x => s.length - x) (fun _ => True) _ (fun x _ => ?_) 0 trivial
    unfold strings_IndexAny_b3
    cases h : decide (x < s.length) with
    | false => exact .inr ⟨_, rfl, by omega⟩
    | true =>
      have hx := of_decide_eq_true h
      rw [cond_true]
      obtain ⟨v, hv, _⟩ := IndexRune_qs ((runeAt s x : Nat) : Int)
      rw [hv, Option.bind_some]
      cases decide (v ≥ (0 : Int)) with
      | true => exact .inr ⟨_, rfl, by omega⟩
      | false => exact .inl ⟨_, rfl, trivial, by have := width_pos s x; omega⟩

/-! ### Addresses -/
theorem bytes1_eq (b : UInt8) : uri_bytes_1 (b.toNat : Int) = some (badU b) := by
  unfold uri_bytes_1
  rw [gcall_val (fun _ => IndexByte_eq _ _), Option.bind_some, u8_nat]
  refine congrArg some ?_
  have h1 := indexByte_has ([34, 35, 60, 62, 92, 94, 123, 124, 125, 96] : Bytes) b
  have h2 := byte_eq (p := fun b => bif (bif (decide ((b.toNat : Int) ≤ (32 : Int))) then true else (decide ((b.toNat : Int) > (126 : Int)))) then true else ([34, 35, 60, 62, 92, 94, 123, 124, 125, 96] : Bytes).contains b) (q := badU) (by kernel_rfl) b
  rw [← h2, ← h1]
  cases (bif (decide ((b.toNat : Int) ≤ (32 : Int))) then true else (decide ((b.toNat : Int) > (126 : Int)))) <;> rfl
theorem bytes_eq {s : Bytes} (hs : s.length ≤ maxLen) : uri_bytes s = some (!(s.any badU)) := by
  unfold uri_bytes
  rw [ContainsFunc_byte badU bytes1_eq hs]; rfl
def badH (b : UInt8) : Bool := !(((b ≥ 97 && b ≤ 122) || (b ≥ 48 && b ≤ 57)) || (b == 45 || b == 46))
theorem host1_eq (b : UInt8) : uri_host_1 (b.toNat : Int) = some (badH b) :=
  congrArg some (byte_eq (p := fun b => !(bif (bif (bif (bif (decide ((b.toNat : Int) ≥ (97 : Int))) then (decide ((b.toNat : Int) ≤ (122 : Int))) else false) then true else (bif (decide ((b.toNat : Int) ≥ (48 : Int))) then (decide ((b.toNat : Int) ≤ (57 : Int))) else false)) then true else ((b.toNat : Int) == (45 : Int))) then true else ((b.toNat : Int) == (46 : Int)))) (q := badH) (by kernel_rfl) b)
def hostB (s : Bytes) : Bool := (decide (1 ≤ s.length) && decide (s.length ≤ 100)) && !(s.any badH)
theorem uhost_eq {s : Bytes} (hs : s.length ≤ maxLen) : uri_host s = some (hostB s) := by
  unfold uri_host hostB
  have e1 : decide ((s.length : Int) ≥ (1 : Int)) = decide (1 ≤ s.length) := by simp; omega
  have e2 : decide ((s.length : Int) ≤ (100 : Int)) = decide (s.length ≤ 100) := by simp; omega
  rw [e1, e2, gcall_val (fun _ => ContainsFunc_byte badH host1_eq hs), Option.bind_some]
  refine congrArg some ?_
  cases decide (1 ≤ s.length) <;> cases decide (s.length ≤ 100) <;> rfl
structure USmall (u : S_Uri) : Prop where
  host : u.Host.length ≤ 1000
  path : u.Path.length ≤ 1000
  query : u.Query.length ≤ 1000
theorem big1 {n : Nat} (h : n ≤ 1000000) : n ≤ maxLen := by unfold maxLen; omega
theorem write_tot {u : S_Uri} (h : USmall u) (hp : 0 ≤ u.Port ∧ u.Port ≤ 65535) : Tot (uri_write u) (fun _ => True) := by
  have h1 := h.host
  have h2 := h.path
  have h3 := h.query
  unfold uri_write
  have hd : number_Dec (IntKind.u64.wrap u.Port) = some (Lib.decDigits u.Port.toNat) := by
    rw [wrap_u64 (by omega) (by omega)]
    have := Dec_eq u.Port.toNat (by omega)
    rwa [show ((u.Port.toNat : Nat) : Int) = u.Port by omega] at this
  have hdl : (Lib.decDigits u.Port.toNat).length ≤ 1000 := by
    have key : ∀ (k n : Nat), n < 10 ^ (k + 1) → (Lib.decDigits n).length ≤ k + 1 := by
      intro k
      induction k with
      | zero => intro n hn; rw [digits_lo (by omega)]; simp
      | succ k ih =>
        intro n hn
        by_cases h : n < 10
        · rw [digits_lo h]; simp
        · rw [digits_hi h, List.length_append]
          have := ih (n / 10) (by rw [Nat.pow_succ] at hn; omega)
          simp; omega
    exact Nat.le_trans (key 5 _ (by omega)) (by omega)
  refine .br (fun _ => ?_) fun _ => ?_
  · rw [cat_ok (big1 (by simp; omega)), Option.bind_some]
    refine .br (fun _ => ?_) fun _ => ?_
    · rw [hd, Option.bind_some, cat_ok (big1 (by simp; omega)), Option.bind_some, cat_ok (big1 (by simp; omega)), Option.bind_some, cat_ok (big1 (by simp; omega)), Option.bind_some]
      refine .br (fun _ => ?_) fun _ => .now trivial
      rw [cat_ok (big1 (by simp; omega)), Option.bind_some, cat_ok (big1 (by simp; omega)), Option.bind_some]
      exact .now trivial
    · rw [cat_ok (big1 (by simp; omega)), Option.bind_some]
      refine .br (fun _ => ?_) fun _ => .now trivial
      rw [cat_ok (big1 (by simp; omega)), Option.bind_some, cat_ok (big1 (by simp; omega)), Option.bind_some]
      exact .now trivial
  · rw [cat_ok (big1 (by simp; omega)), Option.bind_some]
    refine .br (fun _ => ?_) fun _ => .now trivial
    rw [cat_ok (big1 (by simp; omega)), Option.bind_some, cat_ok (big1 (by simp; omega)), Option.bind_some]
    exact .now trivial
/-- What an address that may be is. -/
def UOk (u : S_Uri) : Prop := u.Path.any badU = false ∧ (u.Abs = true → hostB u.Host = true ∧ hasPre u.Path [47] = true)
theorem uRight_tot {u : S_Uri} (h : USmall u) : Tot (uri_Right u) (fun b => b = true → UOk u) := by
  have h1 := h.host
  have h2 := h.path
  have h3 := h.query
  unfold uri_Right
  rw [bytes_eq (big1 (by omega)), Option.bind_some]
  refine .bind (.guard (P := fun _ => True) fun _ => .eq (bytes_eq (big1 (by omega))) trivial) fun x2 _ => ?_
  refine .bind (.guard (P := fun _ => True) fun _ => .eq (Contains_one _ _) trivial) fun x3 _ => ?_
  refine .bind (.guard (P := fun _ => True) fun hg => write_tot h ?_) fun x4 _ => ?_
  · have : decide (u.Port < 0) = false ∧ decide (u.Port > 65535) = false := by
      revert hg
      cases (bif (bif (bif (!(!(u.Path.any badU))) then true else (!x2)) then true else x3) then true else (bif (!(u.Asks)) then (!(u.Query == ([] : Bytes))) else false)) <;> cases decide (u.Port < 0) <;> cases decide (u.Port > 65535) <;> simp
    have a := of_decide_eq_false this.1
    have b := of_decide_eq_false this.2
    omega
  refine .br (fun _ => .now fun h => by cases h) fun hno => ?_
  have hbad : u.Path.any badU = false := by
    cases hb : u.Path.any badU with
    | false => rfl
    | true => rw [hb] at hno; simp at hno
  refine .br (fun ha => ?_) fun ha => ?_
  · rw [uhost_eq (big1 (by omega)), Option.bind_some]
    refine .bind (.guard (P := fun b => b = hasPre u.Path [47]) fun _ => .eq (HasPrefix_eq _ _) rfl) fun x6 h6 => .now fun hb => ⟨hbad, fun _ => ?_⟩
    cases hh : hostB u.Host with
    | false => rw [hh] at hb; cases hb
    | true => rw [hh] at hb; exact ⟨rfl, by rw [← h6 hh]; exact hb⟩
  · rw [show ([47] : Bytes) = [47] from rfl, Cut_one 47 (big1 (by omega)), Option.bind_some]
    refine .bind (.guard (P := fun _ => True) fun _ => .eq (HasPrefix_eq _ _) trivial) fun x8 _ => ?_
    refine .bind (.guard (P := fun _ => True) fun _ => .eq (Contains_one _ _) trivial) fun x9 _ => .now fun _ => ⟨hbad, fun h => by rw [ha] at h; cases h⟩
theorem place_tot {s : Bytes} {u : S_Uri} (hs : s.length ≤ 1000) (hu : USmall u) : Tot (uri_place s u) (fun r => USmall r.1) := by
  unfold uri_place
  rw [Lower_eq (big1 (by omega)), Option.bind_some]
  have hl := lower_len s
  refine .bind (LastIndex_tot 58 (big1 (by omega))) fun x2 h2 => .br (fun _ => .now ⟨by show (lower s).length ≤ _; omega, hu.path, hu.query⟩) fun hx => ?_
  have hx := of_decide_eq_false hx
  refine .bind (slc_tot (by rw [wrap_i64 (by omega) (by omega)]; omega)) fun x3 h3 => ?_
  have hx3 : x3.length ≤ 1000 := by rw [h3]; simp; omega
  rw [ReadDec_eq (big1 (by omega)), Option.bind_some]
  refine .bind (slc_tot (by rw [hl]; omega)) fun x5 h5 => .now ⟨?_, hu.path, hu.query⟩
  show x5.length ≤ 1000
  rw [h5]; simp; omega
theorem path_tot {s : Bytes} {u : S_Uri} (hs : s.length ≤ 1000) (hu : USmall u) : Tot (uri_path s u) USmall := by
  unfold uri_path
  rw [Cut_one 63 (big1 (by omega)), Option.bind_some]
  have := cutC_le 63 s
  exact .now ⟨hu.host, by show (cutC 63 s).1.length ≤ _; omega, by show (cutC 63 s).2.1.length ≤ _; omega⟩
def zeroU : S_Uri := S_Uri.mk false ([] : Bytes) (0 : Int) ([] : Bytes) false ([] : Bytes)
theorem zeroU_small : USmall zeroU := ⟨Nat.zero_le _, Nat.zero_le _, Nat.zero_le _⟩
theorem uend_tot {s : Bytes} {u : S_Uri} (ok : Bool) (hs : s.length ≤ 1000) (hu : USmall u) :
    Tot ((uri_path s u).bind fun x10 => (gcall (!(!ok)) (uri_Right x10)).bind fun x11 => bif (bif (!ok) then true else (!x11)) then some (zeroU, (20 : Int)) else some (x10, (0 : Int))) (fun r => r.2 = 0 → UOk r.1) := by
  refine .bind (path_tot hs hu) fun x hx => .bind (.guard fun _ => uRight_tot hx) fun b hb => .br (fun _ => .now fun h => by exact absurd (show (20 : Int) = 0 from h) (by omega)) fun hno => .now fun _ => ?_
  cases ok with
  | false => cases hno
  | true =>
    cases b with
    | false => cases hno
    | true => exact hb rfl rfl
theorem uparse_tot {s : Bytes} (hs : s.length ≤ 1000000) : Tot (uri_Parse s) (fun r => r.2 = 0 → UOk r.1) := by
  unfold uri_Parse
  refine .br (fun _ => .now fun h => absurd (show (2 : Int) = 0 from h) (by omega)) fun hlen => ?_
  have hlen : s.length ≤ 500 := by have := of_decide_eq_false hlen; omega
  have hg : gslc (decide ((s.length : Int) ≥ (7 : Int))) s 0 (7 : Int) = some (s.take 7) := by
    unfold gslc
    rw [chk_pos (fun h => by have := of_decide_eq_true h; omega)]; rfl
  rw [hg, Option.bind_some]
  refine .bind (.guard (P := fun _ => True) fun _ => .eq (Same_eq (big1 (by simp; omega)) (by decide)) trivial) fun x2 _ => ?_
  refine .br (fun hg7 => ?_) fun _ => uend_tot true (by omega) zeroU_small
  have h7 : (7 : Int) ≤ (s.length : Int) := by
    cases h : decide ((s.length : Int) ≥ (7 : Int)) with
    | false => rw [h] at hg7; cases hg7
    | true => exact of_decide_eq_true h
  refine .bind (slc_tot (by omega)) fun x3 h3 => ?_
  have hx3 : x3.length ≤ 500 := by rw [h3]; simp; omega
  refine .bind (IndexAny_tot (big1 (by omega))) fun x4 h4 => .br (fun _ => ?_) fun hge => ?_
  · refine .bind (slc_tot (by omega)) fun x5 h5 => ?_
    have hx5 : x5.length ≤ 1000 := by rw [h5]; simp; omega
    refine .bind (place_tot hx5 zeroU_small) fun x6 h6 => .bind (slc_tot (by omega)) fun x7 h7 => ?_
    have hx7 : x7.length ≤ 500 := by rw [h7]; simp
    refine .bind (P := fun _ => True) ?_ fun x8 _ => .br (fun _ => ?_) fun _ => uend_tot x6.2 (by omega) h6
    · cases x7 with
      | nil => exact ⟨_, rfl, trivial⟩
      | cons b l => exact ⟨b, rfl, trivial⟩
    · rw [cat_ok (big1 (by simp; omega)), Option.bind_some]
      exact uend_tot x6.2 (by simp; omega) h6
  · have hge := of_decide_eq_false hge
    refine .bind (slc_tot (by omega)) fun x5 h5 => ?_
    have hx5 : x5.length ≤ 1000 := by rw [h5]; simp; omega
    refine .bind (place_tot hx5 zeroU_small) fun x6 h6 => .bind (slc_tot (by omega)) fun x7 h7 => ?_
    have hx7 : x7.length ≤ 500 := by rw [h7]; simp; omega
    refine .bind (P := fun _ => True) ?_ fun x8 _ => .br (fun _ => ?_) fun _ => uend_tot x6.2 (by omega) h6
    · cases x7 with
      | nil => exact ⟨_, rfl, trivial⟩
      | cons b l => exact ⟨b, rfl, trivial⟩
    · rw [cat_ok (big1 (by simp; omega)), Option.bind_some]
      exact uend_tot x6.2 (by simp; omega) h6

/-! ### Routes -/
theorem rhost_tot {s : Bytes} (hs : s.length ≤ 100000) : Tot (route_host s) (fun b => b = true → hostB s = true) := by
  unfold route_host
  rw [cat_ok (big1 (by simp; omega)), Option.bind_some, cat_ok (big1 (by simp; omega)), Option.bind_some]
  refine .bind (uparse_tot (by simp; omega)) fun x hx => .now fun hb => ?_
  cases h2 : ((x.2) == (0 : Int)) with
  | false => rw [h2] at hb; cases hb
  | true =>
    rw [h2, cond_true] at hb
    simp only [Bool.and_eq_true, beq_iff_eq] at hb
    have := (hx (eq_of_beq h2)).2 hb.1
    rw [← hb.2.1]; exact this.1
structure RSm (r : S_Route) : Prop where
  host : r.Host.length ≤ 100000
  pre : r.Prefix.length ≤ 100000
  origin : r.Origin.length ≤ 100000
/-- What a route that may be is. -/
structure ROk (r : S_Route) : Prop where
  host : r.Host = [] ∨ hostB r.Host = true
  pre : r.Prefix.any badU = false
  pre1 : hasPre r.Prefix [47] = true
  origin : hostB r.Origin = true
theorem rright_tot {r : S_Route} (h : RSm r) : Tot (route_right r) (fun b => b = true → ROk r) := by
  have h1 := h.host
  have h2 := h.pre
  have h3 := h.origin
  unfold route_right
  rw [cat_ok (big1 (by simp; omega)), Option.bind_some]
  refine .bind (uparse_tot (by simp; omega)) fun x2 hx2 => .bind (.guard fun _ => rhost_tot h1) fun x3 hx3 => .bind (.guard fun _ => rhost_tot h3) fun x4 hx4 => .now fun hb => ?_
  have hlen : (bif (bif (bif (r.Host == ([] : Bytes)) then true else x3) then x4 else false) then (bif ((x2.2) == (0 : Int)) then ((((x2.1).Abs) == true) && ((((x2.1).Host) == ([104] : Bytes)) && ((((x2.1).Port) == (0 : Int)) && ((((x2.1).Path) == (r.Prefix)) && ((((x2.1).Asks) == false) && ((((x2.1).Query) == ([] : Bytes)) && true)))))) else false) else false) = true := by
    revert hb
    cases (bif (bif (bif (r.Host == ([] : Bytes)) then true else x3) then x4 else false) then (bif ((x2.2) == (0 : Int)) then ((((x2.1).Abs) == true) && ((((x2.1).Host) == ([104] : Bytes)) && ((((x2.1).Port) == (0 : Int)) && ((((x2.1).Path) == (r.Prefix)) && ((((x2.1).Asks) == false) && ((((x2.1).Query) == ([] : Bytes)) && true)))))) else false) else false) with
    | true => intro _; rfl
    | false => intro h; cases h
  cases hh : (bif (r.Host == ([] : Bytes)) then true else x3) with
  | false => rw [hh] at hlen; cases hlen
  | true =>
    rw [hh, cond_true] at hlen
    cases hx : x4 with
    | false => rw [hx] at hlen; cases hlen
    | true =>
      rw [hx, cond_true] at hlen
      cases h0 : ((x2.2) == (0 : Int)) with
      | false => rw [h0] at hlen; cases hlen
      | true =>
        rw [h0, cond_true] at hlen
        simp only [Bool.and_eq_true, beq_iff_eq] at hlen
        have hu := hx2 (eq_of_beq h0)
        refine ⟨?_, by rw [← hlen.2.2.2.1]; exact hu.1, by rw [← hlen.2.2.2.1]; exact (hu.2 hlen.1).2, hx4 hh hx⟩
        cases he : (r.Host == ([] : Bytes)) with
        | true => exact .inl (eq_of_beq he)
        | false => right; rw [he] at hh; exact hx3 (by rw [he]; rfl) hh
end Go.Proofs.YtkfoahoplndelaaGreatDoor
