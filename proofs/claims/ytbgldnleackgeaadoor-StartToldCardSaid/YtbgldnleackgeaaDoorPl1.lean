/-
  Plain laws, part 1: loops over lists; bytes; numbers.
-/
import Derived.Test.YtbgldnleackgeaaDoorIm1
import Derived.KernelRfl
namespace Go.Proofs.YtbgldnleackgeaaDoor
open Go Go.Pm
set_option linter.unusedVariables false

/-- A loop's value, by a measure. -/
theorem loopO_rec {σ ρ : Type} {body : σ → Option (σ ⊕ ρ)} (V : σ → ρ) (μ : σ → Nat) (Inv : σ → Prop)
    (h : ∀ x, Inv x → (∃ y, body x = some (.inl y) ∧ Inv y ∧ μ y < μ x ∧ V x = V y) ∨ body x = some (.inr (V x))) : ∀ x, Inv x → loopO body x = some (V x) := by
  have key : ∀ n x, μ x ≤ n → Inv x → loopO body x = some (V x) := by
    intro n
    induction n with
    | zero =>
      intro x hx hi
      rw [loopO_eq]
      rcases h x hi with ⟨y, h1, h2, h3, h4⟩ | h1
      · omega
      · rw [h1]
    | succ n ih =>
      intro x hx hi
      rw [loopO_eq]
      rcases h x hi with ⟨y, h1, h2, h3, h4⟩ | h1
      · rw [h1, h4]; exact ih y (by omega) h2
      · rw [h1]
  exact fun x => key (μ x) x (Nat.le_refl _)

/-- Elements gone through one by one, till one ends it. -/
def foldE {α β ρ : Type} (step : β → α → β ⊕ ρ) (fin : β → ρ) : List α → β → ρ
  | [], b => fin b
  | x :: l, b => match step b x with
    | .inl b' => foldE step fin l b'
    | .inr r => r

theorem foldE_cons {α β ρ : Type} (step : β → α → β ⊕ ρ) (fin : β → ρ) (x : α) (l : List α) (b : β) : foldE step fin (x :: l) b = match step b x with
    | .inl b' => foldE step fin l b'
    | .inr r => r := by rw [foldE]
theorem loop_list {α β ρ σ : Type} {body : σ → Option (σ ⊕ ρ)} (l : List α) (mk : Nat → β → σ) (step : β → α → β ⊕ ρ) (fin : β → ρ) (Inv : Nat → β → Prop)
    (hs : ∀ (i : Nat) (b : β) (x : α), l[i]? = some x → Inv i b → (∃ b', step b x = .inl b' ∧ body (mk i b) = some (.inl (mk (i + 1) b')) ∧ Inv (i + 1) b') ∨ (∃ r, step b x = .inr r ∧ body (mk i b) = some (.inr r)))
    (hf : ∀ b, Inv l.length b → body (mk l.length b) = some (.inr (fin b))) : ∀ b0, Inv 0 b0 → loopO body (mk 0 b0) = some (foldE step fin l b0) := by
  have key : ∀ (m i : Nat) (b : β), m + i = l.length → Inv i b → loopO body (mk i b) = some (foldE step fin (l.drop i) b) := by
    intro m
    induction m with
    | zero =>
      intro i b hm hi
      have : i = l.length := by omega
      subst this
      rw [loopO_eq, hf b hi, List.drop_length]; rfl
    | succ m ih =>
      intro i b hm hi
      have hlt : i < l.length := by omega
      rw [List.drop_eq_getElem_cons hlt]
      rcases hs i b l[i] (List.getElem?_eq_getElem hlt) hi with ⟨b', h1, h2, h3⟩ | ⟨r, h1, h2⟩
      · rw [loopO_eq, h2]
        show loopO body (mk (i + 1) b') = _
        rw [ih (i + 1) b' (by omega) h3]
        unfold foldE
        rw [h1]
        cases hd : l.drop (i + 1) <;> rfl
      · rw [loopO_eq, h2]
        unfold foldE
        rw [h1]
  intro b0 h0
  have := key l.length 0 b0 (by omega) h0
  rwa [List.drop_zero] at this

theorem wrap_i64 {n : Int} (h : -9223372036854775808 ≤ n) (h' : n ≤ 9223372036854775807) : IntKind.i64.wrap n = n := i64_ok h h'
theorem wrap_inc {i n : Nat} (h : i < n) (hn : n ≤ maxLen) : IntKind.i64.wrap ((i : Int) + (1 : Int)) = ((i + 1 : Nat) : Int) := i64_inc h hn
theorem wrap_u8 {n : Int} (h : 0 ≤ n) (h' : n < 256) : IntKind.u8.wrap n = n := IntWalk.u8_in n (by omega)
theorem wrap_u64 {n : Int} (h : 0 ≤ n) (h' : n ≤ 18446744073709551615) : IntKind.u64.wrap n = n := IntWalk.u64_in n (by omega)

theorem idx_at {α : Type} {l : List α} {i : Nat} {x : α} (h : l[i]? = some x) : idx l (i : Int) = some x := by
  unfold idx
  rw [show decide ((0 : Int) ≤ (i : Int)) = true by simp]
  exact h
theorem dlt_true {i n : Nat} (h : i < n) : decide ((i : Int) < (n : Int)) = true := by simp; omega
theorem dlt_self (n : Nat) : decide ((n : Int) < (n : Int)) = false := by simp
theorem lt_of_get {α : Type} {l : List α} {i : Nat} {x : α} (h : l[i]? = some x) : i < l.length := (List.getElem?_eq_some_iff.1 h).1

theorem byte_all {p : UInt8 → Bool} (h : ((List.range 256).all fun n => p (UInt8.ofNat n)) = true) (b : UInt8) : p b = true := by
  have := List.all_eq_true.1 h b.toNat (List.mem_range.2 b.toNat_lt)
  simpa using this
theorem byte_eq {p q : UInt8 → Bool} (h : ((List.range 256).all fun n => p (UInt8.ofNat n) == q (UInt8.ofNat n)) = true) (b : UInt8) : p b = q b := by
  have := byte_all (p := fun b => p b == q b) h b
  simpa using this
theorem u8_nat (b : UInt8) : u8 (b.toNat : Int) = b := by unfold u8; simp

/-- Where a test holds first, from i on; or -1. -/
def idxP {α : Type} (p : α → Bool) : List α → Nat → Int
  | [], _ => -1
  | x :: l, i => bif p x then (i : Int) else idxP p l (i + 1)
theorem idxP_any {α : Type} (p : α → Bool) : ∀ (s : List α) (i : Nat), decide (idxP p s i ≥ (0 : Int)) = s.any p
  | [], _ => rfl
  | x :: l, i => by
    unfold idxP
    cases hx : p x with
    | true => simp [hx]
    | false => simp only [cond_false, List.any_cons, hx, Bool.false_or]; exact idxP_any p l (i + 1)
theorem foldE_idx {α : Type} (p : α → Bool) : ∀ (l : List α) (i : Nat), foldE (β := Nat) (fun j x => bif p x then .inr (j : Int) else .inl (j + 1)) (fun _ => (-1 : Int)) l i = idxP p l i
  | [], _ => rfl
  | x :: l, i => by
    unfold foldE idxP
    cases p x with
    | true => rfl
    | false => exact foldE_idx p l (i + 1)

theorem IndexFunc_byte {l : Bytes} {pi : Int → Option Bool} (p : UInt8 → Bool) (hp : ∀ b, pi (b.toNat : Int) = some (p b)) (hl : l.length ≤ maxLen) : slices_IndexFunc__byte_byte l pi = some (idxP p l 0) := by
  unfold slices_IndexFunc__byte_byte
  rw [← foldE_idx]
  refine loop_list l (fun i _ => (i : Int)) _ _ (fun i b => b = i) (fun i b x hx hi => ?_) (fun b hi => ?_) 0 rfl
  · subst hi
    have hlt := lt_of_get hx
    unfold slices_IndexFunc__byte_byte_b1
    rw [dlt_true hlt, cond_true, idx_at hx, Option.bind_some, hp, Option.bind_some]
    cases p x with
    | true => exact .inr ⟨_, rfl, rfl⟩
    | false => exact .inl ⟨_, rfl, by rw [wrap_inc hlt hl]; rfl, rfl⟩
  · unfold slices_IndexFunc__byte_byte_b1
    rw [dlt_self]; rfl
theorem ContainsFunc_byte {l : Bytes} {pi : Int → Option Bool} (p : UInt8 → Bool) (hp : ∀ b, pi (b.toNat : Int) = some (p b)) (hl : l.length ≤ maxLen) : slices_ContainsFunc__byte_byte l pi = some (l.any p) := by
  unfold slices_ContainsFunc__byte_byte
  rw [IndexFunc_byte p hp hl, Option.bind_some, idxP_any]
theorem IndexFunc_field {l : List S_Field} {pi : S_Field → Option Bool} (p : S_Field → Bool) (hp : ∀ b, b ∈ l → pi b = some (p b)) (hl : l.length ≤ maxLen) : slices_IndexFunc__api_Field_api_Field l pi = some (idxP p l 0) := by
  unfold slices_IndexFunc__api_Field_api_Field
  rw [← foldE_idx]
  refine loop_list l (fun i _ => (i : Int)) _ _ (fun i b => b = i) (fun i b x hx hi => ?_) (fun b hi => ?_) 0 rfl
  · subst hi
    have hlt := lt_of_get hx
    unfold slices_IndexFunc__api_Field_api_Field_b1
    rw [dlt_true hlt, cond_true, idx_at hx, Option.bind_some, hp x (List.mem_of_getElem? hx), Option.bind_some]
    cases p x with
    | true => exact .inr ⟨_, rfl, rfl⟩
    | false => exact .inl ⟨_, rfl, by rw [wrap_inc hlt hl]; rfl, rfl⟩
  · unfold slices_IndexFunc__api_Field_api_Field_b1
    rw [dlt_self]; rfl
theorem ContainsFunc_field {l : List S_Field} {pi : S_Field → Option Bool} (p : S_Field → Bool) (hp : ∀ b, b ∈ l → pi b = some (p b)) (hl : l.length ≤ maxLen) : slices_ContainsFunc__api_Field_api_Field l pi = some (l.any p) := by
  unfold slices_ContainsFunc__api_Field_api_Field
  rw [IndexFunc_field p hp hl, Option.bind_some, idxP_any]

theorem IndexByte_eq (s : Bytes) (c : Int) : strings_IndexByte s c = some (Lib.indexByte s (u8 c)) := rfl
theorem indexByte_has (s : Bytes) (c : UInt8) : decide (Lib.indexByte s c ≥ (0 : Int)) = s.contains c := by
  induction s with
  | nil => rfl
  | cons b l ih =>
    have h1 := Lib.indexByte_ge l c
    unfold Lib.indexByte
    by_cases hb : b = c
    · subst hb; simp
    · have hb' : (b == c) = false := by simpa using hb
      rw [hb', List.contains_cons]
      have hc : (c == b) = false := by simpa using fun h => hb h.symm
      rw [hc, Bool.false_or, ← ih]
      by_cases h2 : Lib.indexByte l c = -1
      · simp [h2]
      · have h3 : (Lib.indexByte l c == -1) = false := by simpa using h2
        simp only [Bool.false_eq_true, if_false, h3]
        rw [show decide (Lib.indexByte l c + 1 ≥ 0) = true by simp; omega, show decide (Lib.indexByte l c ≥ 0) = true by simp; omega]

/-! ### Sets of bytes -/
theorem gcall_tt {α : Type} [Inhabited α] {g : Bool} {o : Option α} (h : g = true) : gcall g o = o := by subst h; rfl
theorem gcall_ff {α : Type} [Inhabited α] {g : Bool} {o : Option α} (h : g = false) : gcall g o = some default := by subst h; rfl
/-- A guarded call of one that has a value. -/
theorem gcall_val {α : Type} [Inhabited α] {g : Bool} {o : Option α} {x : α} (h : g = true → o = some x) : gcall g o = some (bif g then x else default) := by
  cases g with
  | true => exact h rfl
  | false => rfl

theorem chk_pos {α : Type} {p : Prop} [Decidable p] {o : Option α} (h : p) : chk p o = o := by unfold chk; rw [if_pos h]
theorem chk_neg {α : Type} {p : Prop} [Decidable p] {o : Option α} (h : ¬ p) : chk p o = none := by unfold chk; rw [if_neg h]

/-- Bytes of words. -/
def wordB (b : UInt8) : Bool := (b ≥ 97 && b ≤ 122) || (b ≥ 65 && b ≤ 90) || (b ≥ 48 && b ≤ 57) || ([33, 35, 36, 37, 38, 39, 42, 43, 45, 46, 94, 95, 124, 126, 96] : List UInt8).contains b
def toks : List Bool := (List.range 256).map fun n => wordB (UInt8.ofNat n)
theorem tokens_eq : text_tokens = some toks := by
  unfold text_tokens
  rw [(loopO_some (r := toks)).2 ⟨257, by kernel_rfl⟩, Option.bind_some]
  exact chk_pos (by unfold toks; simp)
theorem toks_get (b : UInt8) : toks[b.toNat]? = some (wordB b) := by
  unfold toks
  rw [List.getElem?_map, List.getElem?_range b.toNat_lt]
  simp
theorem has_eq (b : UInt8) : text_set_has toks (b.toNat : Int) = some (wordB b) := by
  have := b.toNat_lt
  unfold text_set_has
  rw [chk_pos (by omega), idx_at (toks_get b)]; rfl
theorem text_all_eq {s : Bytes} (hs : s.length ≤ maxLen) : text_all s toks (fun x0 x1 => text_set_has x0 x1) = some (s.all wordB) := by
  unfold text_all
  have hfold : ∀ (l : Bytes), foldE (β := Unit) (fun _ b => bif wordB b then .inl () else .inr false) (fun _ => true) l () = l.all wordB := by
    intro l
    induction l with
    | nil => rfl
    | cons x l ih =>
      unfold foldE
      cases hx : wordB x with
      | true => simp only [cond_true, List.all_cons, hx, Bool.true_and]; exact ih
      | false => simp [hx]
  rw [← hfold]
  refine loop_list s (fun i _ => (i : Int)) _ _ (fun _ _ => True) (fun i b x hx _ => ?_) (fun b _ => ?_) () trivial
  · have hlt := lt_of_get hx
    unfold text_all_b1
    rw [dlt_true hlt, cond_true, idx_at hx, Option.bind_some, show (fun x0 x1 => text_set_has x0 x1) = text_set_has from rfl, has_eq, Option.bind_some]
    cases wordB x with
    | true => exact .inl ⟨(), rfl, by rw [wrap_inc hlt hs]; rfl, trivial⟩
    | false => exact .inr ⟨_, rfl, rfl⟩
  · unfold text_all_b1
    rw [dlt_self]; rfl
/-- A word of a header. -/
def tokenB (s : Bytes) : Bool := (!(s == ([] : Bytes))) && s.all wordB
theorem Token_eq {s : Bytes} (hs : s.length ≤ maxLen) : text_Token s = some (tokenB s) := by
  unfold text_Token
  rw [gcall_val (x := toks) (fun _ => tokens_eq), Option.bind_some]
  cases h : (!(s == ([] : Bytes))) with
  | false => rw [gcall_ff rfl, Option.bind_some]; unfold tokenB; rw [h]; rfl
  | true =>
    rw [gcall_tt rfl, cond_true, text_all_eq hs, Option.bind_some]
    unfold tokenB; rw [h]; rfl

theorem word_eq (b : UInt8) : intarsiaref03_word (b.toNat : Int) = some (wordB b) := by
  have hl : ∀ c : UInt8, loopO (intarsiaref03_word_b1 (c.toNat : Int)) (0 : Int) = some (([33, 35, 36, 37, 38, 39, 42, 43, 45, 46, 94, 95, 124, 126] : Bytes).contains c) := by
    intro c
    have hfold : ∀ (l : Bytes), foldE (β := Unit) (fun _ b => bif (b.toNat : Int) == (c.toNat : Int) then .inr true else .inl ()) (fun _ => false) l () = l.contains c := by
      intro l
      induction l with
      | nil => rfl
      | cons x l ih =>
        unfold foldE
        rw [List.contains_cons]
        by_cases hx : x = c
        · subst hx; simp
        · have h1 : ((x.toNat : Int) == (c.toNat : Int)) = false := by
            rw [beq_eq_false_iff_ne]; intro h; exact hx (UInt8.toNat_inj.1 (by omega))
          have h2 : (c == x) = false := by simpa using fun h => hx h.symm
          rw [h1, h2, Bool.false_or]; exact ih
    rw [← hfold]
    refine loop_list ([33, 35, 36, 37, 38, 39, 42, 43, 45, 46, 94, 95, 124, 126] : Bytes) (fun i _ => (i : Int)) _ _ (fun _ _ => True) (fun i b x hx _ => ?_) (fun b _ => ?_) () trivial
    · have hlt := lt_of_get hx
      unfold intarsiaref03_word_b1
      rw [dlt_true hlt, cond_true, idx_at hx, Option.bind_some]
      cases ((x.toNat : Int) == (c.toNat : Int)) with
      | true => exact .inr ⟨_, rfl, rfl⟩
      | false => exact .inl ⟨(), rfl, by rw [wrap_inc hlt (by unfold maxLen; simp)]; rfl, trivial⟩
    · unfold intarsiaref03_word_b1
      rw [dlt_self]; rfl
  unfold intarsiaref03_word
  rw [hl]
  · have key := byte_eq (p := fun b => bif (bif (bif (bif (bif (decide ((b.toNat : Int) ≥ (97 : Int))) then (decide ((b.toNat : Int) ≤ (122 : Int))) else false) then true else (bif (decide ((b.toNat : Int) ≥ (65 : Int))) then (decide ((b.toNat : Int) ≤ (90 : Int))) else false)) then true else (bif (decide ((b.toNat : Int) ≥ (48 : Int))) then (decide ((b.toNat : Int) ≤ (57 : Int))) else false)) then true else ((b.toNat : Int) == (96 : Int))) then true else ([33, 35, 36, 37, 38, 39, 42, 43, 45, 46, 94, 95, 124, 126] : Bytes).contains b) (q := wordB) (by kernel_rfl) b
    rw [← key]
    cases (bif (bif (bif (bif (decide ((b.toNat : Int) ≥ (97 : Int))) then (decide ((b.toNat : Int) ≤ (122 : Int))) else false) then true else (bif (decide ((b.toNat : Int) ≥ (65 : Int))) then (decide ((b.toNat : Int) ≤ (90 : Int))) else false)) then true else (bif (decide ((b.toNat : Int) ≥ (48 : Int))) then (decide ((b.toNat : Int) ≤ (57 : Int))) else false)) then true else ((b.toNat : Int) == (96 : Int))) <;> rfl
theorem refToken_eq {s : Bytes} (hs : s.length ≤ maxLen) : intarsiaref03_Token s = some (tokenB s) := by
  unfold intarsiaref03_Token
  have hfold : ∀ (l : Bytes), foldE (β := Unit) (fun _ b => bif wordB b then .inl () else .inr false) (fun _ => (!(s == ([] : Bytes)))) l () = (l.all wordB && (!(s == ([] : Bytes)))) := by
    intro l
    induction l with
    | nil => rfl
    | cons x l ih =>
      unfold foldE
      cases hx : wordB x with
      | true => simp only [cond_true, List.all_cons, hx, Bool.true_and]; exact ih
      | false => simp [hx]
  unfold tokenB
  rw [Bool.and_comm, ← hfold]
  refine loop_list s (fun i _ => (i : Int)) _ _ (fun _ _ => True) (fun i b x hx _ => ?_) (fun b _ => ?_) () trivial
  · have hlt := lt_of_get hx
    unfold intarsiaref03_Token_b1
    rw [dlt_true hlt, cond_true, idx_at hx, Option.bind_some, word_eq, Option.bind_some]
    cases wordB x with
    | true => exact .inl ⟨(), rfl, by rw [wrap_inc hlt hs]; rfl, trivial⟩
    | false => exact .inr ⟨_, rfl, rfl⟩
  · unfold intarsiaref03_Token_b1
    rw [dlt_self]; rfl
end Go.Proofs.YtbgldnleackgeaaDoor
