/-
  Plain laws of the wire, 1: what is always told; lines; heads.
-/
import Derived.Test.YtkfoahoplndelaaGreatDoorPw0
namespace Go.Proofs.YtkfoahoplndelaaGreatDoor
open Go Go.Pm
set_option linter.unusedVariables false
set_option maxRecDepth 100000
/-! ### It is told, and so -/
def Tot {α : Type} (o : Option α) (P : α → Prop) : Prop := ∃ x, o = some x ∧ P x
section
variable {α β : Type} {P : α → Prop} {Q : β → Prop}
theorem Tot.now {x : α} (h : P x) : Tot (some x) P := ⟨x, rfl, h⟩
theorem Tot.eq {o : Option α} {x : α} (h : o = some x) (hx : P x) : Tot o P := ⟨x, h, hx⟩
theorem Tot.bind {o : Option α} {f : α → Option β} (h : Tot o P) (k : ∀ x, P x → Tot (f x) Q) : Tot (o.bind f) Q := by
  obtain ⟨x, rfl, hx⟩ := h; exact k x hx
theorem Tot.mono {o : Option α} {P' : α → Prop} (h : Tot o P) (k : ∀ x, P x → P' x) : Tot o P' := by
  obtain ⟨x, h1, h2⟩ := h; exact ⟨x, h1, k x h2⟩
theorem Tot.br {b : Bool} {x y : Option α} (h1 : b = true → Tot x P) (h2 : b = false → Tot y P) : Tot (bif b then x else y) P := by
  cases b with
  | true => exact h1 rfl
  | false => exact h2 rfl
theorem Tot.guard [Inhabited α] {g : Bool} {o : Option α} (h : g = true → Tot o P) : Tot (gcall g o) (fun x => g = true → P x) := by
  cases g with
  | true => obtain ⟨x, h1, h2⟩ := h rfl; exact ⟨x, h1, fun _ => h2⟩
  | false => exact ⟨default, rfl, fun h => by cases h⟩
theorem Tot.chk {p : Prop} [Decidable p] {o : Option α} (hp : p) (h : Tot o P) : Tot (Pm.chk p o) P := by rw [chk_pos hp]; exact h
end
theorem loop_tot {σ ρ : Type} {body : σ → Option (σ ⊕ ρ)} (μ : σ → Nat) (Inv : σ → Prop) (Q : ρ → Prop)
    (h : ∀ x, Inv x → (∃ y, body x = some (.inl y) ∧ Inv y ∧ μ y < μ x) ∨ ∃ r, body x = some (.inr r) ∧ Q r) : ∀ x, Inv x → Tot (loopO body x) Q := by
  have key : ∀ n x, μ x ≤ n → Inv x → Tot (loopO body x) Q := by
    intro n
    induction n with
    | zero =>
      intro x hx hi
      rw [loopO_eq]
      rcases h x hi with ⟨y, h1, h2, h3⟩ | ⟨r, h1, h2⟩
      · omega
      · rw [h1]; exact ⟨r, rfl, h2⟩
    | succ n ih =>
      intro x hx hi
      rw [loopO_eq]
      rcases h x hi with ⟨y, h1, h2, h3⟩ | ⟨r, h1, h2⟩
      · rw [h1]; exact ih y (by omega) h2
      · rw [h1]; exact ⟨r, rfl, h2⟩
  exact fun x => key (μ x) x (Nat.le_refl _)
theorem slc_tot {α : Type} {l : List α} {a b : Int} (h : 0 ≤ a ∧ a ≤ b ∧ b ≤ (l.length : Int)) : Tot (slc l a b) (fun x => x = (l.drop a.toNat).take (b.toNat - a.toNat)) := by
  unfold slc; rw [chk_pos h]; exact ⟨_, rfl, rfl⟩
/-! ### Bytes found -/
theorem indexByte_range (s : Bytes) (c : UInt8) : Lib.indexByte s c = -1 ∨ (0 ≤ Lib.indexByte s c ∧ Lib.indexByte s c < (s.length : Int)) := by
  induction s with
  | nil => exact .inl rfl
  | cons b l ih =>
    unfold Lib.indexByte
    split
    · right; simp
    · split
      · exact .inl rfl
      · rename_i h1 h2
        have h2 : Lib.indexByte l c ≠ -1 := by simpa using h2
        right
        rcases ih with h | ⟨h3, h4⟩
        · exact absurd h h2
        · simp; omega
theorem sIndex_one (s : Bytes) (c : UInt8) : stringslite_Index s [c] = some (Lib.indexByte s c) := by
  unfold stringslite_Index
  have e1 : (((([c] : Bytes).length : Nat) : Int) == (0 : Int)) = false := rfl
  have e2 : (((([c] : Bytes).length : Nat) : Int) == (1 : Int)) = true := rfl
  rw [e1, e2, cond_false, cond_true]
  cases h : (([c] : Bytes) == s) with
  | true => rw [← eq_of_beq h]; simp [Lib.indexByte]
  | false =>
    rw [cond_false]
    show ((idx [c] ((0 : Nat) : Int)).bind _) = _
    rw [idx_at (x := c) rfl, Option.bind_some]
    show some (Lib.indexByte s (u8 (c.toNat : Int))) = _
    rw [u8_nat]
def cutC (c : UInt8) : Bytes → Bytes × Bytes × Bool
  | [] => ([], [], false)
  | x :: s => bif x == c then ([], s, true) else (x :: (cutC c s).1, (cutC c s).2)
theorem cutC_index (c : UInt8) : ∀ (s : Bytes), (Lib.indexByte s c = -1 ∧ cutC c s = (s, [], false)) ∨ ∃ i : Nat, Lib.indexByte s c = (i : Int) ∧ i < s.length ∧ cutC c s = (s.take i, s.drop (i + 1), true)
  | [] => .inl ⟨rfl, rfl⟩
  | x :: s => by
    unfold Lib.indexByte cutC
    cases hx : (x == c) with
    | true => exact .inr ⟨0, rfl, by simp, by simp⟩
    | false =>
      rcases cutC_index c s with ⟨h1, h2⟩ | ⟨i, h1, h2, h3⟩
      · left; rw [h1, h2]; exact ⟨rfl, rfl⟩
      · right
        refine ⟨i + 1, ?_, by simpa using h2, by rw [h3]; simp⟩
        rw [h1]
        have : ((i : Int) == -1) = false := by simp
        simp [this]
theorem Cut_one {s : Bytes} (c : UInt8) (hs : s.length ≤ maxLen) : strings_Cut s [c] = some (cutC c s) := by
  unfold strings_Cut stringslite_Cut
  rw [sIndex_one, Option.bind_some]
  rcases cutC_index c s with ⟨h1, h2⟩ | ⟨i, h1, h2, h3⟩
  · rw [h1, h2]; rfl
  · rw [h1, h3]
    have e : decide ((i : Int) ≥ (0 : Int)) = true := by simp
    have e2 : IntKind.i64.wrap ((i : Int) + (((([c] : Bytes).length : Nat) : Int))) = ((i + 1 : Nat) : Int) := by
      rw [wrap_i64 (by simp; omega) (by unfold maxLen at hs; simp; omega)]; simp
    rw [e, cond_true, e2]
    have h4 : slc s 0 (i : Int) = some (s.take i) := by unfold slc; rw [chk_pos (by omega)]; simp
    have h5 : slc s ((i + 1 : Nat) : Int) (s.length : Int) = some (s.drop (i + 1)) := by
      unfold slc
      rw [chk_pos (by omega)]
      show some ((s.drop (i + 1)).take (s.length - (i + 1))) = _
      rw [List.take_of_length_le (by rw [List.length_drop]; exact Nat.le_refl _)]
    rw [h4, Option.bind_some, h5]; rfl
theorem cutC_le (c : UInt8) (s : Bytes) : (cutC c s).1.length ≤ s.length ∧ (cutC c s).2.1.length ≤ s.length := by
  rcases cutC_index c s with ⟨_, h⟩ | ⟨i, _, h1, h⟩
  · rw [h]; exact ⟨Nat.le_refl _, Nat.zero_le _⟩
  · rw [h]; simp; omega
theorem Contains_one (s : Bytes) (c : UInt8) : strings_Contains s [c] = some (decide (Lib.indexByte s c ≥ (0 : Int))) := by
  unfold strings_Contains strings_Index
  rw [sIndex_one]; rfl
/-! ### Ends of texts -/
theorem TrimS_tot {s : Bytes} (c : UInt8) (hs : s.length ≤ maxLen) : Tot (strings_TrimSuffix s [c]) (fun r => r.length ≤ s.length) := by
  unfold strings_TrimSuffix
  refine Tot.bind (P := fun r => r.length ≤ s.length) ?_ (fun x hx => .now hx)
  unfold stringslite_TrimSuffix
  refine Tot.bind (P := fun b => b = true → 1 ≤ s.length) ?_ (fun b hb => ?_)
  · unfold stringslite_HasSuffix
    by_cases h : 1 ≤ s.length
    · have e : gslc (decide ((s.length : Int) ≥ ((([c] : Bytes).length : Nat) : Int))) s (IntKind.i64.wrap ((s.length : Int) - ((([c] : Bytes).length : Nat) : Int))) (s.length : Int) = some ((s.drop (s.length - 1)).take (s.length - (s.length - 1))) := by
        unfold gslc
        rw [wrap_i64 (by simp; omega) (by simp; unfold maxLen at hs; omega), chk_pos (fun _ => ⟨by simp; omega, by simp; omega, Int.le_refl _⟩)]
        have : ((s.length : Int) - ((([c] : Bytes).length : Nat) : Int)).toNat = s.length - 1 := by simp
        rw [this, Int.toNat_natCast]
      rw [e, Option.bind_some]
      exact ⟨_, rfl, fun _ => h⟩
    · have h0 : s = [] := List.eq_nil_of_length_eq_zero (by omega)
      subst h0
      exact ⟨_, rfl, fun h => by cases h⟩
  · refine Tot.br (fun h => ?_) (fun _ => .now (Nat.le_refl _))
    have h1 := hb h
    refine Tot.bind (slc_tot ?_) (fun x hx => .now ?_)
    · rw [wrap_i64 (by simp; omega) (by simp; unfold maxLen at hs; omega)]; simp; omega
    · rw [hx]; simp; omega
theorem TrimP_eq {s p : Bytes} (hs : s.length ≤ maxLen) : strings_TrimPrefix s p = some (bif hasPre s p then s.drop p.length else s) := by
  unfold strings_TrimPrefix stringslite_TrimPrefix
  have h := HasPrefix_eq s p
  have h2 : stringslite_HasPrefix s p = some (hasPre s p) := by
    unfold strings_HasPrefix at h
    cases hx : stringslite_HasPrefix s p with
    | none => rw [hx] at h; cases h
    | some y => rw [hx] at h; exact h
  rw [h2, Option.bind_some]
  cases hb : hasPre s p with
  | false => rfl
  | true =>
    have hl : p.length ≤ s.length := by
      unfold hasPre at hb
      obtain ⟨t, rfl⟩ := List.isPrefixOf_iff_prefix.1 hb
      simp
    rw [cond_true, cond_true]
    unfold slc
    rw [chk_pos (by omega)]
    show some ((s.drop p.length).take (s.length - p.length)) = _
    rw [List.take_of_length_le (by simp)]
/-! ### Lines -/
theorem items_tot {s : Bytes} (hs : s.length ≤ 1000000) : ∀ (k : Nat) (a : Nat), a ≤ s.length → s.length < k + a → Tot (head_items s k (a : Int)) (fun l => ∀ x, x ∈ l → (a : Int) < x.2 ∧ x.2 ≤ (s.length : Int) ∧ x.1.length ≤ s.length) := by
  intro k
  induction k with
  | zero =>
    intro a ha h
    omega
  | succ k ih =>
    intro a ha h
    unfold head_items
    refine Tot.br (fun hd => ?_) (fun hd => .now fun x hx => by cases hx)
    have hd := of_decide_eq_true hd
    refine Tot.bind (slc_tot ⟨by omega, by omega, Int.le_refl _⟩) (fun t ht => ?_)
    have htl : t.length = s.length - a := by rw [ht]; simp
    rw [IndexByte_eq, Option.bind_some]
    have e10 : u8 10 = (10 : UInt8) := rfl
    rw [e10]
    refine Tot.br (fun hn => .now fun x hx => by cases hx) (fun hn => ?_)
    have hn := of_decide_eq_false hn
    have hr := indexByte_range t 10
    generalize Lib.indexByte t 10 = n at hn hr
    rcases hr with hr | ⟨h1, h2⟩
    · omega
    have w1 : IntKind.i64.wrap ((a : Int) + n) = (a : Int) + n := wrap_i64 (by omega) (by omega)
    have w2 : IntKind.i64.wrap (n + 1) = n + 1 := wrap_i64 (by omega) (by omega)
    have w3 : IntKind.i64.wrap ((a : Int) + (n + 1)) = ((a + n.toNat + 1 : Nat) : Int) := by rw [wrap_i64 (by omega) (by omega)]; omega
    rw [w1, w2, w3]
    refine Tot.bind (slc_tot ⟨by omega, by omega, by omega⟩) (fun u hu => ?_)
    have hul : u.length ≤ s.length := by rw [hu]; simp; omega
    refine Tot.bind (TrimS_tot 13 (by unfold maxLen; omega)) (fun line hl => ?_)
    refine Tot.bind (ih (a + n.toNat + 1) (by omega) (by omega)) (fun tl htl2 => .now ?_)
    intro x hx
    rcases List.mem_cons.1 hx with rfl | hx
    · exact ⟨by show (a : Int) < _; omega, by show ((a + n.toNat + 1 : Nat) : Int) ≤ _; omega, by show line.length ≤ _; omega⟩
    · obtain ⟨g1, g2, g3⟩ := htl2 x hx
      exact ⟨by omega, g2, g3⟩
theorem rows_tot {s : Bytes} (hs : s.length ≤ 1000000) : Tot (head_rows s) (fun l => ∀ x, x ∈ l → (0 : Int) < x.2 ∧ x.2 ≤ (s.length : Int) ∧ x.1.length ≤ s.length) := by
  unfold head_rows
  exact items_tot hs (s.length + 1) 0 (by omega) (by omega)
theorem find_range (n : Nat) : ∀ (l : List (Bytes × Int)), (∀ x, x ∈ l → (0 : Int) < x.2 ∧ x.2 ≤ (n : Int) ∧ x.1.length ≤ n) → ((head_find n l).2 = 0 ∧ 1 ≤ (head_find n l).1 ∧ (head_find n l).1 ≤ (n : Int)) ∨ (head_find n l = (0, 3) ∧ n ≤ 4000) ∨ head_find n l = (0, 2)
  | [], _ => by
    unfold head_find
    by_cases h : (n : Int) > 4000
    · rw [decide_eq_true h]; exact .inr (.inr rfl)
    · rw [decide_eq_false h]; exact .inr (.inl ⟨rfl, by omega⟩)
  | (line, a) :: l, h => by
    unfold head_find
    obtain ⟨h1, h2, _⟩ := h _ (List.mem_cons_self ..)
    cases decide (a > 4000) with
    | true => exact .inr (.inr rfl)
    | false =>
      rw [cond_false]
      cases (line == []) with
      | true => exact .inl ⟨rfl, by have : (0 : Int) < a := h1; show (1 : Int) ≤ a; omega, h2⟩
      | false => exact find_range n l (fun x hx => h x (List.mem_cons_of_mem _ hx))
theorem End_tot {s : Bytes} (hs : s.length ≤ 1000000) : Tot (head_End s) (fun r => (r.2 = 0 ∧ 1 ≤ r.1 ∧ r.1 ≤ (s.length : Int)) ∨ (r = (0, 3) ∧ s.length ≤ 4000) ∨ r = (0, 2)) := by
  unfold head_End
  exact Tot.bind (rows_tot hs) (fun l hl => .now (find_range s.length l hl))
/-! ### Fields -/
theorem fold_tot : ∀ (l : List (Bytes × Int)) (out : List S_Field), (∀ x, x ∈ l → x.1.length ≤ 100000) → FRow out → out.length ≤ 40 → Tot (head_fold l out) (fun r => FRow r.1 ∧ r.1.length ≤ 40)
  | [], out, _, h1, h2 => .now ⟨h1, h2⟩
  | (line, a) :: l, out, hl, h1, h2 => by
    have hx := hl _ (List.mem_cons_self ..)
    unfold head_fold
    have hc := cutC_le 58 line
    have nil : FRow [] := ⟨by simp, fun f hf => by cases hf⟩
    rw [Cut_one 58 (by unfold maxLen; exact Nat.le_trans hx (by decide)), Option.bind_some, Trim_eq (by unfold maxLen; have := hc.2; simp at hx; omega), Option.bind_some]
    have hf : (S_Field.mk (cutC 58 line).1 (trim (cutC 58 line).2.1)).Name.length ≤ 100000 ∧ (S_Field.mk (cutC 58 line).1 (trim (cutC 58 line).2.1)).Value.length ≤ 100000 := by
      have := trim_le (cutC 58 line).2.1
      simp at hx ⊢
      omega
    rw [Add_eq h1 ⟨by have := hf.1; unfold maxLen; omega, by have := hf.2; unfold maxLen; omega⟩, Option.bind_some]
    refine Tot.br (fun _ => .now ⟨nil, by simp⟩) (fun _ => ?_)
    refine Tot.br (fun _ => .now ⟨nil, by simp⟩) (fun _ => ?_)
    refine fold_tot l _ (fun x hx => hl x (List.mem_cons_of_mem _ hx)) (addB_row h1 (by omega) hf) ?_
    unfold addB
    cases ((!rightB out) || !mayB (S_Field.mk (cutC 58 line).1 (trim (cutC 58 line).2.1))) with
    | true => simp
    | false =>
      cases he : (out.length == 40) with
      | true => simp
      | false => have : out.length ≠ 40 := by simpa using he
                 simp; omega
theorem HParse_tot {s : Bytes} (hs : s.length ≤ 100000) : Tot (head_Parse s) (fun r => FRow r.1 ∧ r.1.length ≤ 40) := by
  have nil : FRow [] := ⟨by simp, fun f hf => by cases hf⟩
  unfold head_Parse
  refine Tot.br (fun _ => .now ⟨nil, by simp⟩) (fun _ => ?_)
  refine Tot.bind (P := fun _ => True) ?_ (fun b _ => ?_)
  · cases he : (s == ([] : Bytes)) with
    | true => exact ⟨_, rfl, trivial⟩
    | false =>
      have hne : 1 ≤ s.length := by
        rcases s with _ | ⟨x, s⟩
        · simp at he
        · simp
      refine ⟨s[s.length - 1]'(by omega), ?_, trivial⟩
      show gidx true s _ = _
      rw [gidx_tt rfl]
      have e : IntKind.i64.wrap ((s.length : Int) - 1) = ((s.length - 1 : Nat) : Int) := by rw [wrap_i64 (by omega) (by omega)]; omega
      rw [e]
      exact idx_at (List.getElem?_eq_getElem (by omega))
  · refine Tot.br (fun _ => .now ⟨nil, by simp⟩) (fun _ => ?_)
    refine Tot.bind (rows_tot (by omega)) (fun l hl => ?_)
    exact fold_tot l [] (fun x hx => by have := (hl x hx).2.2; omega) nil (by simp)
end Go.Proofs.YtkfoahoplndelaaGreatDoor
