/-
  Plain laws: what is used of the plain texts of another seat.
-/
import Derived.Test.YtkfoahoplndelaaGreatDoorIm1
import Derived.KernelRfl
import Derived.Lib.SplitLaws
namespace Go.Proofs.YtkfoahoplndelaaGreatDoor
open Go Go.Pm
set_option linter.unusedVariables false

/-- A loop's value, by a measure. -/
theorem loopO_rec {σ ρ : Type} {body : σ → Option (σ ⊕ ρ)} (V : σ → ρ) (μ : σ → Nat) (Inv : σ → Prop)
    (h : ∀ x, Inv x → (∃ y, body x = some (.inl y) ∧ Inv y ∧ μ y < μ x ∧ V x = V y) ∨ body x = some (.inr (V x))) : ∀ x, Inv x → loopO body x = some (V x) := by
  have key : ∀ n x, μ x ≤ n → Inv x → loopO body x = some (V x) := by
    intro n
    induction n with
    | zero =>
      intro x hx hi
      rw [loopO_eq]
      rcases h x hi with ⟨y, h1, h2, h3, h4⟩ | h1
      · omega
      · rw [h1]
    | succ n ih =>
      intro x hx hi
      rw [loopO_eq]
      rcases h x hi with ⟨y, h1, h2, h3, h4⟩ | h1
      · rw [h1, h4]; exact ih y (by omega) h2
      · rw [h1]
  exact fun x => key (μ x) x (Nat.le_refl _)
/-- Elements gone through one by one, till one ends it. -/
def foldE {α β ρ : Type} (step : β → α → β ⊕ ρ) (fin : β → ρ) : List α → β → ρ
  | [], b => fin b
  | x :: l, b => match step b x with
    | .inl b' => foldE step fin l b'
    | .inr r => r
theorem foldE_cons {α β ρ : Type} (step : β → α → β ⊕ ρ) (fin : β → ρ) (x : α) (l : List α) (b : β) : foldE step fin (x :: l) b = match step b x with
    | .inl b' => foldE step fin l b'
    | .inr r => r := by rw [foldE]
theorem loop_list {α β ρ σ : Type} {body : σ → Option (σ ⊕ ρ)} (l : List α) (mk : Nat → β → σ) (step : β → α → β ⊕ ρ) (fin : β → ρ) (Inv : Nat → β → Prop)
    (hs : ∀ (i : Nat) (b : β) (x : α), l[i]? = some x → Inv i b → (∃ b', step b x = .inl b' ∧ body (mk i b) = some (.inl (mk (i + 1) b')) ∧ Inv (i + 1) b') ∨ (∃ r, step b x = .inr r ∧ body (mk i b) = some (.inr r)))
    (hf : ∀ b, Inv l.length b → body (mk l.length b) = some (.inr (fin b))) : ∀ b0, Inv 0 b0 → loopO body (mk 0 b0) = some (foldE step fin l b0) := by
  have key : ∀ (m i : Nat) (b : β), m + i = l.length → Inv i b → loopO body (mk i b) = some (foldE step fin (l.drop i) b) := by
    intro m
    induction m with
    | zero =>
      intro i b hm hi
      have : i = l.length := by omega
      subst this
      rw [loopO_eq, hf b hi, List.drop_length]; rfl
    | succ m ih =>
      intro i b hm hi
      have hlt : i < l.length := by omega
      rw [List.drop_eq_getElem_cons hlt]
      rcases hs i b l[i] (List.getElem?_eq_getElem hlt) hi with ⟨b', h1, h2, h3⟩ | ⟨r, h1, h2⟩
      · rw [loopO_eq, h2]
        show loopO body (mk (i + 1) b') = _
        rw [ih (i + 1) b' (by omega) h3]
        unfold foldE
        rw [h1]
        cases hd : l.drop (i + 1) <;> rfl
      · rw [loopO_eq, h2]
        unfold foldE
        rw [h1]
  intro b0 h0
  have := key l.length 0 b0 (by omega) h0
  rwa [List.drop_zero] at this
theorem wrap_i64 {n : Int} (h : -9223372036854775808 ≤ n) (h' : n ≤ 9223372036854775807) : IntKind.i64.wrap n = n := i64_ok h h'
theorem wrap_inc {i n : Nat} (h : i < n) (hn : n ≤ maxLen) : IntKind.i64.wrap ((i : Int) + (1 : Int)) = ((i + 1 : Nat) : Int) := i64_inc h hn
theorem wrap_u8 {n : Int} (h : 0 ≤ n) (h' : n < 256) : IntKind.u8.wrap n = n := IntWalk.u8_in n (by omega)
theorem wrap_u64 {n : Int} (h : 0 ≤ n) (h' : n ≤ 18446744073709551615) : IntKind.u64.wrap n = n := IntWalk.u64_in n (by omega)
theorem idx_at {α : Type} {l : List α} {i : Nat} {x : α} (h : l[i]? = some x) : idx l (i : Int) = some x := by
  unfold idx
  rw [show decide ((0 : Int) ≤ (i : Int)) = true by simp]
  exact h
theorem dlt_true {i n : Nat} (h : i < n) : decide ((i : Int) < (n : Int)) = true := by simp; omega
theorem dlt_self (n : Nat) : decide ((n : Int) < (n : Int)) = false := by simp
theorem lt_of_get {α : Type} {l : List α} {i : Nat} {x : α} (h : l[i]? = some x) : i < l.length := (List.getElem?_eq_some_iff.1 h).1
theorem byte_all {p : UInt8 → Bool} (h : ((List.range 256).all fun n => p (UInt8.ofNat n)) = true) (b : UInt8) : p b = true := by
  have := List.all_eq_true.1 h b.toNat (List.mem_range.2 b.toNat_lt)
  simpa using this
theorem byte_eq {p q : UInt8 → Bool} (h : ((List.range 256).all fun n => p (UInt8.ofNat n) == q (UInt8.ofNat n)) = true) (b : UInt8) : p b = q b := by
  have := byte_all (p := fun b => p b == q b) h b
  simpa using this
theorem u8_nat (b : UInt8) : u8 (b.toNat : Int) = b := by unfold u8; simp
/-- Where a test holds first, from i on; or -1. -/
def idxP {α : Type} (p : α → Bool) : List α → Nat → Int
  | [], _ => -1
  | x :: l, i => bif p x then (i : Int) else idxP p l (i + 1)
theorem idxP_any {α : Type} (p : α → Bool) : ∀ (s : List α) (i : Nat), decide (idxP p s i ≥ (0 : Int)) = s.any p
  | [], _ => rfl
  | x :: l, i => by
    unfold idxP
    cases hx : p x with
    | true => simp [hx]
    | false => simp only [cond_false, List.any_cons, hx, Bool.false_or]; exact idxP_any p l (i + 1)
theorem foldE_idx {α : Type} (p : α → Bool) : ∀ (l : List α) (i : Nat), foldE (β := Nat) (fun j x => bif p x then .inr (j : Int) else .inl (j + 1)) (fun _ => (-1 : Int)) l i = idxP p l i
  | [], _ => rfl
  | x :: l, i => by
    unfold foldE idxP
    cases p x with
    | true => rfl
    | false => exact foldE_idx p l (i + 1)
theorem IndexFunc_byte {l : Bytes} {pi : Int → Option Bool} (p : UInt8 → Bool) (hp : ∀ b, pi (b.toNat : Int) = some (p b)) (hl : l.length ≤ maxLen) : slices_IndexFunc__byte_byte l pi = some (idxP p l 0) := by
  unfold slices_IndexFunc__byte_byte
  rw [← foldE_idx]
  refine loop_list l (fun i _ => (i : Int)) _ _ (fun i b => b = i) (fun i b x hx hi => ?_) (fun b hi => ?_) 0 rfl
  · subst hi
    have hlt := lt_of_get hx
    unfold slices_IndexFunc__byte_byte_b1
    rw [dlt_true hlt, cond_true, idx_at hx, Option.bind_some, hp, Option.bind_some]
    cases p x with
    | true => exact .inr ⟨_, rfl, rfl⟩
    | false => exact .inl ⟨_, rfl, by rw [wrap_inc hlt hl]; rfl, rfl⟩
  · unfold slices_IndexFunc__byte_byte_b1
    rw [dlt_self]; rfl
theorem ContainsFunc_byte {l : Bytes} {pi : Int → Option Bool} (p : UInt8 → Bool) (hp : ∀ b, pi (b.toNat : Int) = some (p b)) (hl : l.length ≤ maxLen) : slices_ContainsFunc__byte_byte l pi = some (l.any p) := by
  unfold slices_ContainsFunc__byte_byte
  rw [IndexFunc_byte p hp hl, Option.bind_some, idxP_any]
theorem IndexByte_eq (s : Bytes) (c : Int) : strings_IndexByte s c = some (Lib.indexByte s (u8 c)) := rfl
theorem indexByte_has (s : Bytes) (c : UInt8) : decide (Lib.indexByte s c ≥ (0 : Int)) = s.contains c := by
  induction s with
  | nil => rfl
  | cons b l ih =>
    have h1 := Lib.indexByte_ge l c
    unfold Lib.indexByte
    by_cases hb : b = c
    · subst hb; simp
    · have hb' : (b == c) = false := by simpa using hb
      rw [hb', List.contains_cons]
      have hc : (c == b) = false := by simpa using fun h => hb h.symm
      rw [hc, Bool.false_or, ← ih]
      by_cases h2 : Lib.indexByte l c = -1
      · simp [h2]
      · have h3 : (Lib.indexByte l c == -1) = false := by simpa using h2
        simp only [Bool.false_eq_true, if_false, h3]
        rw [show decide (Lib.indexByte l c + 1 ≥ 0) = true by simp; omega, show decide (Lib.indexByte l c ≥ 0) = true by simp; omega]
theorem gcall_tt {α : Type} [Inhabited α] {g : Bool} {o : Option α} (h : g = true) : gcall g o = o := by subst h; rfl
theorem gcall_ff {α : Type} [Inhabited α] {g : Bool} {o : Option α} (h : g = false) : gcall g o = some default := by subst h; rfl
/-- A guarded call of one that has a value. -/
theorem gcall_val {α : Type} [Inhabited α] {g : Bool} {o : Option α} {x : α} (h : g = true → o = some x) : gcall g o = some (bif g then x else default) := by
  cases g with
  | true => exact h rfl
  | false => rfl
theorem chk_pos {α : Type} {p : Prop} [Decidable p] {o : Option α} (h : p) : chk p o = o := by unfold chk; rw [if_pos h]
theorem chk_neg {α : Type} {p : Prop} [Decidable p] {o : Option α} (h : ¬ p) : chk p o = none := by unfold chk; rw [if_neg h]
/-- Bytes of words. -/
def wordB (b : UInt8) : Bool := (b ≥ 97 && b ≤ 122) || (b ≥ 65 && b ≤ 90) || (b ≥ 48 && b ≤ 57) || ([33, 35, 36, 37, 38, 39, 42, 43, 45, 46, 94, 95, 124, 126, 96] : List UInt8).contains b
def toks : List Bool := (List.range 256).map fun n => wordB (UInt8.ofNat n)
theorem tokens_eq : text_tokens = some toks := by
  unfold text_tokens
  rw [(loopO_some (r := toks)).2 ⟨257, by kernel_rfl⟩, Option.bind_some]
  exact chk_pos (by unfold toks; simp)
theorem toks_get (b : UInt8) : toks[b.toNat]? = some (wordB b) := by
  unfold toks
  rw [List.getElem?_map, List.getElem?_range b.toNat_lt]
  simp
theorem has_eq (b : UInt8) : text_set_has toks (b.toNat : Int) = some (wordB b) := by
  have := b.toNat_lt
  unfold text_set_has
  rw [chk_pos (by omega), idx_at (toks_get b)]; rfl
theorem text_all_eq {s : Bytes} (hs : s.length ≤ maxLen) : text_all s toks (fun x0 x1 => text_set_has x0 x1) = some (s.all wordB) := by
  unfold text_all
  have hfold : ∀ (l : Bytes), foldE (β := Unit) (fun _ b => bif wordB b then .inl () else .inr false) (fun _ => true) l () = l.all wordB := by
    intro l
    induction l with
    | nil => rfl
    | cons x l ih =>
      unfold foldE
      cases hx : wordB x with
      | true => simp only [cond_true, List.all_cons, hx, Bool.true_and]; exact ih
      | false => simp [hx]
  rw [← hfold]
  refine loop_list s (fun i _ => (i : Int)) _ _ (fun _ _ => True) (fun i b x hx _ => ?_) (fun b _ => ?_) () trivial
  · have hlt := lt_of_get hx
    unfold text_all_b1
    rw [dlt_true hlt, cond_true, idx_at hx, Option.bind_some, show (fun x0 x1 => text_set_has x0 x1) = text_set_has from rfl, has_eq, Option.bind_some]
    cases wordB x with
    | true => exact .inl ⟨(), rfl, by rw [wrap_inc hlt hs]; rfl, trivial⟩
    | false => exact .inr ⟨_, rfl, rfl⟩
  · unfold text_all_b1
    rw [dlt_self]; rfl
/-- A word of a header. -/
def tokenB (s : Bytes) : Bool := (!(s == ([] : Bytes))) && s.all wordB
theorem Token_eq {s : Bytes} (hs : s.length ≤ maxLen) : text_Token s = some (tokenB s) := by
  unfold text_Token
  rw [gcall_val (x := toks) (fun _ => tokens_eq), Option.bind_some]
  cases h : (!(s == ([] : Bytes))) with
  | false => rw [gcall_ff rfl, Option.bind_some]; unfold tokenB; rw [h]; rfl
  | true =>
    rw [gcall_tt rfl, cond_true, text_all_eq hs, Option.bind_some]
    unfold tokenB; rw [h]; rfl
def blank (b : UInt8) : Bool := b == 32 || b == 9
def dropL (p : UInt8 → Bool) (s : Bytes) : Bytes := s.dropWhile p
def dropR (p : UInt8 → Bool) (s : Bytes) : Bytes := (s.reverse.dropWhile p).reverse
def trim (s : Bytes) : Bytes := dropL blank (dropR blank s)
theorem dropR_snoc (p : UInt8 → Bool) (s : Bytes) (b : UInt8) : dropR p (s ++ [b]) = bif p b then dropR p s else s ++ [b] := by
  unfold dropR
  rw [List.reverse_append, List.reverse_cons, List.reverse_nil, List.nil_append, List.singleton_append, List.dropWhile_cons]
  cases p b <;> simp
theorem dropR_nil (p : UInt8 → Bool) : dropR p [] = [] := rfl
theorem dropL_le (p : UInt8 → Bool) (s : Bytes) : (dropL p s).length ≤ s.length := (List.dropWhile_sublist p).length_le
theorem dropR_le (p : UInt8 → Bool) (s : Bytes) : (dropR p s).length ≤ s.length := by
  unfold dropR
  have := (List.dropWhile_sublist p (l := s.reverse)).length_le
  simpa using this
theorem trim_le (s : Bytes) : (trim s).length ≤ s.length := Nat.le_trans (dropL_le ..) (dropR_le ..)
/-- A loop that takes a byte off the front as long as a test holds. -/
theorem loopL {body : Bytes → Option (Bytes ⊕ Bytes)} (p : UInt8 → Bool) (n : Nat) (h0 : body [] = some (.inr [])) (h1 : ∀ x t, t.length < n → body (x :: t) = some (bif p x then .inl t else .inr (x :: t))) :
    ∀ s, s.length ≤ n → loopO body s = some (dropL p s) := by
  refine loopO_rec (dropL p) List.length (fun s => s.length ≤ n) fun s hs => ?_
  cases s with
  | nil => exact .inr h0
  | cons x t =>
    have hb := h1 x t (by simp at hs; omega)
    cases hx : p x with
    | true =>
      rw [hx] at hb
      exact .inl ⟨t, hb, by simp at hs; omega, by simp, by unfold dropL; rw [List.dropWhile_cons_of_pos hx]⟩
    | false =>
      rw [hx] at hb
      refine .inr ?_
      rw [hb]; unfold dropL
      rw [List.dropWhile_cons_of_neg (by simp [hx])]; rfl
/-- A loop that takes a byte off the end as long as a test holds. -/
theorem loopR {body : Bytes → Option (Bytes ⊕ Bytes)} (p : UInt8 → Bool) (n : Nat) (h0 : body [] = some (.inr [])) (h1 : ∀ x t, t.length < n → body (t ++ [x]) = some (bif p x then .inl t else .inr (t ++ [x]))) :
    ∀ s, s.length ≤ n → loopO body s = some (dropR p s) := by
  refine loopO_rec (dropR p) List.length (fun s => s.length ≤ n) fun s hs => ?_
  rcases List.eq_nil_or_concat s with rfl | ⟨t, x, rfl⟩
  · exact .inr h0
  · rw [List.concat_eq_append] at hs ⊢
    have hb := h1 x t (by simp at hs; omega)
    rw [dropR_snoc]
    cases hx : p x with
    | true =>
      rw [hx] at hb
      exact .inl ⟨t, hb, by simp at hs; omega, by simp, rfl⟩
    | false =>
      rw [hx] at hb
      exact .inr hb
theorem slc_tail (x : UInt8) (t : Bytes) : slc (x :: t) (1 : Int) (((x :: t).length : Nat) : Int) = some t := by
  unfold slc
  rw [chk_pos (by simp; omega)]
  simp
theorem slc_init (x : UInt8) (t : Bytes) (h : t.length < maxLen) : slc (t ++ [x]) 0 (IntKind.i64.wrap (((t ++ [x]).length : Int) - (1 : Int))) = some t := by
  have : IntKind.i64.wrap (((t ++ [x]).length : Int) - (1 : Int)) = (t.length : Int) := by
    unfold maxLen at h
    have e : ((t ++ [x]).length : Int) = (t.length : Int) + 1 := by simp
    rw [e, wrap_i64 (by omega) (by omega)]; omega
  rw [this]
  unfold slc
  rw [chk_pos (by simp; omega)]
  simp
theorem idx_last (x : UInt8) (t : Bytes) (h : t.length < maxLen) : idx (t ++ [x]) (IntKind.i64.wrap (((t ++ [x]).length : Int) - (1 : Int))) = some x := by
  have : IntKind.i64.wrap (((t ++ [x]).length : Int) - (1 : Int)) = (t.length : Int) := by
    unfold maxLen at h
    have e : ((t ++ [x]).length : Int) = (t.length : Int) + 1 := by simp
    rw [e, wrap_i64 (by omega) (by omega)]; omega
  rw [this]
  exact idx_at (by simp)
theorem dgt_cons (x : UInt8) (t : Bytes) : decide ((((x :: t).length : Nat) : Int) > (0 : Int)) = true := by simp
theorem dgt_snoc (x : UInt8) (t : Bytes) : decide ((((t ++ [x]).length : Nat) : Int) > (0 : Int)) = true := by simp
def bset : List Bool := (List.range 256).map fun n => blank (UInt8.ofNat n)
theorem bset_get (b : UInt8) : bset[b.toNat]? = some (blank b) := by
  unfold bset
  rw [List.getElem?_map, List.getElem?_range b.toNat_lt]
  simp
theorem bset_eq : strings_makeASCIISet [32, 9] = some (bset, true) := by
  unfold strings_makeASCIISet
  exact loopO_some.2 ⟨3, by kernel_rfl⟩
theorem contains_eq (b : UInt8) : strings_asciiSet_contains bset (b.toNat : Int) = some (blank b) := by
  have := b.toNat_lt
  unfold strings_asciiSet_contains
  rw [chk_pos (by omega), idx_at (bset_get b)]; rfl
theorem gidx_tt {α : Type} [Inhabited α] {g : Bool} {l : List α} {n : Int} (h : g = true) : gidx g l n = idx l n := by subst h; rfl
theorem snoc_ind {P : Bytes → Prop} (h0 : P []) (h1 : ∀ t x, P t → P (t ++ [x])) (s : Bytes) : P s := by
  have : ∀ l : Bytes, P l.reverse := by
    intro l
    induction l with
    | nil => exact h0
    | cons x l ih => rw [List.reverse_cons]; exact h1 _ _ ih
  have h := this s.reverse
  rwa [List.reverse_reverse] at h
/-- What is taken off one end first does not matter. -/
theorem drops_comm (p : UInt8 → Bool) : ∀ (s : Bytes), dropR p (dropL p s) = dropL p (dropR p s) := by
  intro s
  have hall : ∀ (l : Bytes), (∀ x, x ∈ l → p x = true) → dropL p l = [] := by
    intro l hl
    induction l with
    | nil => rfl
    | cons x l ih =>
      unfold dropL
      rw [List.dropWhile_cons_of_pos (hl x (List.mem_cons_self ..))]
      exact ih fun y hy => hl y (List.mem_cons_of_mem _ hy)
  have hrev : ∀ l, dropR p l = (dropL p l.reverse).reverse := fun l => rfl
  -- front: blanks, then one that is not
  rcases Classical.em (∀ x, x ∈ s → p x = true) with ha | hn
  · have e : dropL p s.reverse = [] := hall _ fun x hx => ha x (by simpa using hx)
    rw [hall s ha, hrev s, e]; rfl
  · have hsplit : ∀ (l : Bytes), (¬ ∀ x, x ∈ l → p x = true) → ∃ a y c, l = a ++ y :: c ∧ (∀ x, x ∈ a → p x = true) ∧ p y = false := by
      intro l
      induction l with
      | nil => intro h; exact absurd (by simp) h
      | cons x l ih =>
        intro h
        cases hx : p x with
        | false => exact ⟨[], x, l, rfl, by simp, hx⟩
        | true =>
          obtain ⟨a, y, c, h1, h2, h3⟩ := ih (fun h' => h fun z hz => by
            rcases List.mem_cons.1 hz with rfl | hz
            · exact hx
            · exact h' z hz)
          exact ⟨x :: a, y, c, by rw [h1]; rfl, fun z hz => by
            rcases List.mem_cons.1 hz with rfl | hz
            · exact hx
            · exact h2 z hz, h3⟩
    obtain ⟨a, y, c, rfl, ha, hy⟩ := hsplit s hn
    have hL : ∀ (u : Bytes), dropL p (a ++ y :: u) = y :: u := by
      intro u
      unfold dropL
      rw [List.dropWhile_append_of_pos (by simpa using ha), List.dropWhile_cons_of_neg (by simp [hy])]
    have hR' : ∀ (a : Bytes), dropR p (a ++ y :: c) = a ++ y :: dropR p c := by
      intro a
      clear hL ha hn
      refine snoc_ind (P := fun c => dropR p (a ++ y :: c) = a ++ y :: dropR p c) ?_ (fun c x ih => ?_) c
      · rw [dropR_nil, dropR_snoc, hy]; rfl
      · rw [show a ++ y :: (c ++ [x]) = (a ++ y :: c) ++ [x] by simp, dropR_snoc, dropR_snoc]
        cases p x with
        | true => exact ih
        | false => simp
    rw [hL, hR', hL]
    exact hR' []
def hasPre (s p : Bytes) : Bool := p.isPrefixOf s
theorem HasPrefix_eq (s p : Bytes) : strings_HasPrefix s p = some (hasPre s p) := by
  unfold strings_HasPrefix stringslite_HasPrefix gslc
  rw [chk_pos (fun h => by simp at h; omega)]
  simp only [Option.bind_some]
  refine congrArg some ?_
  unfold hasPre
  by_cases h : p.length ≤ s.length
  · rw [show decide ((s.length : Int) ≥ (p.length : Int)) = true by simp; omega, cond_true, Bool.eq_iff_iff, beq_iff_eq, List.isPrefixOf_iff_prefix, List.prefix_iff_eq_take]
    simp only [Int.toNat_zero, List.drop_zero, Int.toNat_natCast, Nat.sub_zero]
    exact ⟨fun h => h.symm, fun h => h.symm⟩
  · rw [show decide ((s.length : Int) ≥ (p.length : Int)) = false by simp; omega, cond_false]
    symm
    rw [Bool.eq_false_iff]
    intro hp
    have := (List.isPrefixOf_iff_prefix.1 hp).length_le
    omega
def lowB (b : UInt8) : UInt8 := bif b ≥ 65 && b ≤ 90 then b + 32 else b
def lower (s : Bytes) : Bytes := s.map lowB
theorem lower_len (s : Bytes) : (lower s).length = s.length := by simp [lower]
theorem low1 (b : UInt8) : (bif (bif (decide ((b.toNat : Int) ≥ (65 : Int))) then (decide ((b.toNat : Int) ≤ (90 : Int))) else false) then u8 (IntKind.u8.wrap ((IntKind.u8.wrap ((b.toNat : Int) + (97 : Int))) - (65 : Int))) else b) = lowB b := by
  have := byte_all (p := fun b => (bif (bif (decide ((b.toNat : Int) ≥ (65 : Int))) then (decide ((b.toNat : Int) ≤ (90 : Int))) else false) then u8 (IntKind.u8.wrap ((IntKind.u8.wrap ((b.toNat : Int) + (97 : Int))) - (65 : Int))) else b) == lowB b) (by kernel_rfl) b
  simpa using this
theorem low2 (b : UInt8) : (bif (bif (decide ((b.toNat : Int) ≥ (65 : Int))) then (decide ((b.toNat : Int) ≤ (90 : Int))) else false) then u8 (IntKind.u8.wrap ((b.toNat : Int) + (32 : Int))) else b) = lowB b := by
  have := byte_all (p := fun b => (bif (bif (decide ((b.toNat : Int) ≥ (65 : Int))) then (decide ((b.toNat : Int) ≤ (90 : Int))) else false) then u8 (IntKind.u8.wrap ((b.toNat : Int) + (32 : Int))) else b) == lowB b) (by kernel_rfl) b
  simpa using this
theorem seti_at {α : Type} {l : List α} {i : Nat} {x : α} (h : i < l.length) : seti l (i : Int) x = some (l.set i x) := by
  unfold seti
  rw [chk_pos (by omega), Int.toNat_natCast]
theorem Lower_eq {s : Bytes} (hs : s.length ≤ maxLen) : text_Lower s = some (lower s) := by
  unfold text_Lower
  have key : loopO (text_Lower_b1 s) ((0 : Int), s) = some (lower s) := by
    have h := loopO_rec (body := text_Lower_b1 s) (fun _ => lower s) (fun x => s.length - x.1.toNat) (fun x => ∃ i : Nat, i ≤ s.length ∧ x = ((i : Int), lower (s.take i) ++ s.drop i)) ?_ ((0 : Int), s) ⟨0, Nat.zero_le _, by simp [lower]⟩
    · exact h
    · rintro _ ⟨i, hi, rfl⟩
      rcases Nat.lt_or_ge i s.length with hlt | hge
      · left
        have hget : (lower (s.take i) ++ s.drop i)[i]? = some s[i] := by
          rw [List.getElem?_append_right (by simp [lower]; omega)]
          simp [lower, show min i s.length = i by omega]
        have hll : (lower (s.take i) ++ s.drop i).length = s.length := by simp [lower]; omega
        refine ⟨(((i + 1 : Nat) : Int), lower (s.take (i + 1)) ++ s.drop (i + 1)), ?_, ⟨i + 1, hlt, rfl⟩, by simp; omega, rfl⟩
        have hnew : (lower (s.take i) ++ s.drop i).set i (lowB s[i]) = lower (s.take (i + 1)) ++ s.drop (i + 1) := by
          rw [List.take_succ_eq_append_getElem hlt, List.drop_eq_getElem_cons hlt]
          have hl : (lower (s.take i)).length = i := by simp [lower]; omega
          rw [List.set_append_right _ _ (by omega), hl, Nat.sub_self, List.set_cons_zero]
          unfold lower
          rw [List.map_append, List.append_assoc]; rfl
        have hsame : lowB s[i] = s[i] → lower (s.take i) ++ s.drop i = lower (s.take (i + 1)) ++ s.drop (i + 1) := fun h => by
          rw [← hnew, h]
          refine (List.ext_getElem? fun j => ?_)
          rw [List.getElem?_set]
          by_cases hj : i = j
          · subst hj; rw [if_pos rfl, if_pos (by omega), hget]
          · rw [if_neg hj]
        unfold text_Lower_b1
        dsimp only
        rw [dlt_true hlt, cond_true, chk_pos (by omega), idx_at hget, Option.bind_some, chk_pos (by omega), seti_at (by omega), Option.bind_some, wrap_inc hlt hs]
        have h1 := low1 s[i]
        cases hc : (bif (decide ((s[i].toNat : Int) ≥ (65 : Int))) then (decide ((s[i].toNat : Int) ≤ (90 : Int))) else false) with
        | true =>
          rw [hc, cond_true] at h1
          rw [h1, hnew]; rfl
        | false =>
          rw [hc, cond_false] at h1
          rw [cond_false, hsame h1.symm]
      · right
        have : i = s.length := by omega
        subst this
        unfold text_Lower_b1
        dsimp only
        rw [dlt_self]
        simp [lower]
  rw [key, Option.bind_some, chk_pos (by rw [lower_len]; exact Nat.le_refl _), List.take_of_length_le (by rw [lower_len]; exact Nat.le_refl _)]
theorem Same_eq {s t : Bytes} (hs : s.length ≤ maxLen) (ht : t.length ≤ maxLen) : text_Same s t = some (lower s == lower t) := by
  unfold text_Same
  rw [Lower_eq hs, Option.bind_some, Lower_eq ht]; rfl
theorem cat_ok {s t : Bytes} (h : s.length + t.length ≤ maxLen) : cat s t = some (s ++ t) := by unfold cat; exact chk_pos h
/-- A search for a byte that a test holds of, told as a truth. -/
theorem any_loop {l : Bytes} (hl : l.length ≤ maxLen) {ρ : Type} {body : Int → Option (Int ⊕ ρ)} (p : UInt8 → Bool) (yes no : ρ) (hs : ∀ (i : Nat) (x : UInt8), l[i]? = some x → body (i : Int) = some (bif p x then .inr yes else .inl (((i + 1 : Nat)) : Int)))
    (hf : body (l.length : Int) = some (.inr no)) : loopO body (0 : Int) = some (bif l.any p then yes else no) := by
  have hfold : ∀ (l : Bytes), foldE (β := Unit) (fun _ b => bif p b then .inr yes else .inl ()) (fun _ => no) l () = bif l.any p then yes else no := by
    intro l
    induction l with
    | nil => rfl
    | cons x l ih =>
      unfold foldE
      rw [List.any_cons]
      cases hx : p x with
      | true => rfl
      | false => exact ih
  rw [← hfold]
  refine loop_list l (fun i _ => (i : Int)) _ _ (fun _ _ => True) (fun i b x hx _ => ?_) (fun b _ => hf) () trivial
  have := hs i x hx
  cases hp : p x with
  | true => rw [hp] at this; exact .inr ⟨yes, rfl, this⟩
  | false => rw [hp] at this; exact .inl ⟨(), rfl, this, trivial⟩
/-- Bytes that no text has. -/
def ctlB (b : UInt8) : Bool := (b < 32 && b != 9) || b == 127
theorem ctl_nat (b : UInt8) : (bif (bif (decide ((b.toNat : Int) < (32 : Int))) then ((b.toNat : Int) != (9 : Int)) else false) then true else ((b.toNat : Int) == (127 : Int))) = ctlB b :=
  byte_eq (p := fun b => bif (bif (decide ((b.toNat : Int) < (32 : Int))) then ((b.toNat : Int) != (9 : Int)) else false) then true else ((b.toNat : Int) == (127 : Int))) (q := ctlB) (by kernel_rfl) b
/-- Bytes that no address has. -/
def badU (b : UInt8) : Bool := (b ≤ 32 || b > 126) || ([34, 35, 60, 62, 92, 94, 123, 124, 125, 96] : List UInt8).contains b
def http : Bytes := [104, 116, 116, 112, 58, 47, 47]
def targetB (s : Bytes) : Bool := (s == ([42] : Bytes)) || ((hasPre s [47] || hasPre s http) && (decide (s.length ≤ 500) && !(s.any badU)))
theorem tgt_eq {t : Bytes} (ht : t.length ≤ maxLen) : targetB t = ((t == ([42] : Bytes)) || ((decide (t.length > 0) && (decide (t.length ≤ 500) && !(t.any badU))) && ((t.head? == some 47) || (t.take 7 == http)))) := by
  unfold targetB
  have h1 : hasPre t [47] = (t.head? == some 47) := by
    cases t with
    | nil => rfl
    | cons x t =>
      show (47 == x && ([] : Bytes).isPrefixOf t) = _
      rw [Bool.eq_iff_iff]
      simp only [List.isPrefixOf, Bool.and_true, beq_iff_eq, List.head?_cons, Option.some.injEq]
      exact ⟨fun h => h.symm, fun h => h.symm⟩
  have h2 : hasPre t http = (t.take 7 == http) := by
    unfold hasPre
    rw [Bool.eq_iff_iff, List.isPrefixOf_iff_prefix, List.prefix_iff_eq_take, beq_iff_eq]
    exact ⟨fun h => h.symm, fun h => h.symm⟩
  rw [h1, h2]
  cases t with
  | nil => rfl
  | cons x t =>
    rw [show decide ((x :: t).length > 0) = true by simp]
    cases ((x :: t) == ([42] : Bytes)) <;> cases ((x :: t).head? == some 47) <;> cases ((x :: t).take 7 == http) <;> cases decide ((x :: t).length ≤ 500) <;> cases (x :: t).any badU <;> rfl
theorem app_ok {α : Type} {e : Nat} {s t : List α} (h : s.length + t.length ≤ 1000000) (he : e ≤ 1000) : app e s t = some (s ++ t) := by
  unfold app
  refine chk_pos ⟨by unfold maxLen; omega, ?_⟩
  calc (s.length + t.length) * e ≤ 1000000 * 1000 := Nat.mul_le_mul h he
    _ ≤ _ := by decide
theorem mul32 {n : Nat} (h : n ≤ 1000000) : n ≤ maxLen := by unfold maxLen; omega
theorem filter_fold {α : Type} (p : α → Bool) : ∀ (l acc : List α), foldE (ρ := List α) (fun a x => .inl (bif p x then a ++ [x] else a)) (fun a => a) l acc = acc ++ l.filter p
  | [], acc => by simp [foldE]
  | x :: l, acc => by
    show foldE _ _ l (bif p x then acc ++ [x] else acc) = _
    rw [filter_fold p l]
    cases hx : p x <;> simp [hx]
theorem map_fold {α β : Type} (g : α → β) : ∀ (l : List α) (acc : List β), foldE (ρ := List β) (fun a x => .inl (a ++ [g x])) (fun a => a) l acc = acc ++ l.map g
  | [], acc => by simp [foldE]
  | x :: l, acc => by
    show foldE _ _ l (acc ++ [g x]) = _
    rw [map_fold g l]; simp
def sep : Bytes := [44, 32]
theorem tail_le (M : Nat) : ∀ (r : List Bytes), (∀ s, s ∈ r → s.length ≤ M) → (Lib.joinTail sep r).length ≤ r.length * (M + 2)
  | [], _ => by simp [Lib.joinTail]
  | x :: r, h => by
    have h1 := tail_le M r fun s hs => h s (List.mem_cons_of_mem _ hs)
    have h2 := h x (List.mem_cons_self ..)
    unfold Lib.joinTail at h1 ⊢
    simp only [List.map_cons, List.flatten_cons, List.length_append, List.length_cons, Nat.add_mul]
    have : sep.length = 2 := rfl
    omega
theorem join_le (M : Nat) (l : List Bytes) (h : ∀ s, s ∈ l → s.length ≤ M) : (Lib.join l sep).length ≤ l.length * (M + 2) := by
  cases l with
  | nil => simp [Lib.join]
  | cons x r =>
    rw [Lib.join_cons, List.length_append, List.length_cons, Nat.add_mul]
    have h1 := tail_le M r fun s hs => h s (List.mem_cons_of_mem _ hs)
    have h2 := h x (List.mem_cons_self ..)
    omega
theorem join_snoc (l : List Bytes) (x : Bytes) (h : l ≠ []) : Lib.join (l ++ [x]) sep = Lib.join l sep ++ sep ++ x := by
  cases l with
  | nil => exact absurd rfl h
  | cons y r =>
    rw [List.cons_append, Lib.join_cons, Lib.join_cons]
    unfold Lib.joinTail
    simp [List.append_assoc]
/-- Few values, none long. -/
structure LSmall (l : List Bytes) : Prop where
  len : l.length ≤ 100000
  each : ∀ s, s ∈ l → s.length ≤ 100000
theorem LSmall.join {l : List Bytes} (h : LSmall l) : (Lib.join l sep).length ≤ 10000200000 := by
  have h1 := join_le 100000 l h.each
  have h2 : l.length * (100000 + 2) ≤ 100000 * (100000 + 2) := Nat.mul_le_mul_right _ h.len
  omega
theorem LSmall.take {l : List Bytes} (h : LSmall l) (i : Nat) : LSmall (l.take i) := ⟨by have := h.len; simp; omega, fun s hs => h.each s (List.mem_of_mem_take hs)⟩
theorem Join_eq {l : List Bytes} (h : LSmall l) : strings_Join l [44, 32] = some (Lib.join l sep) := by
  unfold strings_Join
  have := h.join
  have := h.len
  exact chk_pos ⟨by omega, by show (Lib.join l sep).length ≤ _; omega⟩
def dv (b : UInt8) : Int := (b.toNat : Int) - 48
def isDig (b : UInt8) : Bool := b ≥ 48 && b ≤ 57
theorem dv_of {b : UInt8} (h : isDig b = true) : 0 ≤ dv b ∧ dv b ≤ 9 := by
  have := byte_all (p := fun b => !isDig b || (decide (0 ≤ dv b) && decide (dv b ≤ 9))) (by kernel_rfl) b
  rw [h] at this
  simpa using this
def over : Bytes → Int → Bool
  | [], _ => false
  | x :: l, n => bif decide (n * 10 + dv x > 1099511627776) then true else over l (n * 10 + dv x)
def valF : Bytes → Int → Int
  | [], n => n
  | x :: l, n => valF l (n * 10 + dv x)
def decR (t : Bytes) (n : Int) (long : Bool) : Int × Int := bif t.all isDig then (bif long || over t n then (0, 2) else (valF t n, 0)) else (0, 10)
def dec (s : Bytes) : Int × Int := bif s == ([] : Bytes) then (0, 10) else decR s 0 false
theorem dig1 (b : UInt8) : decide ((IntKind.u64.wrap (IntKind.u8.wrap ((b.toNat : Int) - (48 : Int)))) ≥ (10 : Int)) = !isDig b := by
  have := byte_all (p := fun b => decide ((IntKind.u64.wrap (IntKind.u8.wrap ((b.toNat : Int) - (48 : Int)))) ≥ (10 : Int)) == !isDig b) (by kernel_rfl) b
  simpa using this
theorem dig2 {b : UInt8} (h : isDig b = true) : IntKind.u64.wrap (IntKind.u8.wrap ((b.toNat : Int) - (48 : Int))) = dv b := by
  have := byte_all (p := fun b => !isDig b || (IntKind.u64.wrap (IntKind.u8.wrap ((b.toNat : Int) - (48 : Int))) == dv b)) (by kernel_rfl) b
  rw [h] at this
  simpa using this
def decStep (c : Int × Bool) (x : UInt8) : (Int × Bool) ⊕ (Int × Int) := bif isDig x then (bif decide (c.1 * 10 + dv x > 1099511627776) then .inl (0, true) else .inl (c.1 * 10 + dv x, c.2)) else .inr (0, 10)
def decFin (c : Int × Bool) : Int × Int := bif c.2 then (0, 2) else (c.1, 0)
def rdStep (c : Int) (x : UInt8) : Int ⊕ (Int ⊕ (Int × Int)) := bif decide (c * 10 + dv x > 1099511627776) then .inr (.inr (0, 2)) else .inl (c * 10 + dv x)
def rdFin (c : Int) : Int ⊕ (Int × Int) := .inr (c, 0)
theorem ReadDec_eq {s : Bytes} (hs : s.length ≤ maxLen) : number_ReadDec s = some (dec s) := by
  unfold number_ReadDec number_read_uint64 dec
  cases h0 : (s == ([] : Bytes)) with
  | true => rfl
  | false =>
    simp only [cond_false]
    have hf : ∀ (l : Bytes) (n : Int) (long : Bool), foldE decStep decFin l (n, long) = decR l n long := by
      intro l
      induction l with
      | nil => intro n long; unfold decR; cases long <;> rfl
      | cons x l ih =>
        intro n long
        unfold decR
        rw [List.all_cons, foldE_cons, show decStep (n, long) x = (bif isDig x then (bif decide (n * 10 + dv x > 1099511627776) then .inl (0, true) else .inl (n * 10 + dv x, long)) else .inr (0, 10)) from rfl]
        cases hx : isDig x with
        | false => rfl
        | true =>
          simp only [cond_true, Bool.true_and]
          unfold over valF
          cases hm : decide (n * 10 + dv x > 1099511627776) with
          | true =>
            simp only [cond_true]
            rw [ih]; unfold decR
            simp
          | false =>
            simp only [cond_false]
            rw [ih]; rfl
    have key := loop_list (body := number_read_uint64_b1 s 10 (fun x0 => number_ReadDec_1 x0)) s (fun i (c : Int × Bool) => (c.1, c.2, (i : Int))) decStep decFin (fun i c => 0 ≤ c.1 ∧ c.1 ≤ 1099511627776) (fun i c x hx hi => ?_) (fun c hi => ?_) (0, false) ⟨by simp, by simp⟩
    · rw [show ((IntKind.u64.wrap (0 : Int)), false, (0 : Int)) = ((0 : Int), false, ((0 : Nat) : Int)) from rfl, key, hf]; rfl
    · have hlt := lt_of_get hx
      unfold number_read_uint64_b1 number_ReadDec_1
      dsimp only
      rw [dlt_true hlt, cond_true, idx_at hx, Option.bind_some, Option.bind_some, dig1]
      unfold decStep
      cases hd : isDig x with
      | false => exact .inr ⟨_, rfl, rfl⟩
      | true =>
        have hdv := dv_of hd
        rw [dig2 hd, wrap_u64 (show 0 ≤ c.1 * 10 by omega) (by omega), wrap_u64 (show 0 ≤ c.1 * 10 + dv x by omega) (by omega), wrap_inc hlt hs]
        simp only [Bool.not_true, cond_false, cond_true]
        cases hm : decide (c.1 * 10 + dv x > 1099511627776) with
        | true => exact .inl ⟨(0, true), rfl, rfl, by simp, by simp⟩
        | false => exact .inl ⟨_, rfl, rfl, by show 0 ≤ c.1 * 10 + dv x; omega, by show c.1 * 10 + dv x ≤ _; simpa using hm⟩
    · unfold number_read_uint64_b1 decFin
      dsimp only
      rw [dlt_self]
      cases c.2 <;> rfl
theorem valF_bound : ∀ (t : Bytes) (n : Int), 0 ≤ n → n ≤ 1099511627776 → t.all isDig = true → over t n = false → 0 ≤ valF t n ∧ valF t n ≤ 1099511627776
  | [], n, h0, h1, _, _ => ⟨h0, h1⟩
  | x :: t, n, h0, h1, ha, ho => by
    rw [List.all_cons, Bool.and_eq_true] at ha
    have hd := dv_of ha.1
    unfold over at ho
    unfold valF
    cases hm : decide (n * 10 + dv x > 1099511627776) with
    | true => rw [hm] at ho; cases ho
    | false =>
      rw [hm, cond_false] at ho
      exact valF_bound t _ (by omega) (by simpa using hm) ha.2 ho
theorem dec_cases (s : Bytes) : (dec s).2 = 10 ∨ (dec s).2 = 2 ∨ ((dec s).2 = 0 ∧ 0 ≤ (dec s).1 ∧ (dec s).1 ≤ 1099511627776) := by
  unfold dec decR
  cases (s == ([] : Bytes)) with
  | true => exact .inl rfl
  | false =>
    cases ha : s.all isDig with
    | false => exact .inl rfl
    | true =>
      cases ho : over s 0 with
      | true => exact .inr (.inl rfl)
      | false => exact .inr (.inr ⟨rfl, valF_bound s 0 (by simp) (by simp) ha ho⟩)
theorem k22 : ((2 : Int) == 2) = true := rfl
theorem k210 : ((2 : Int) == 10) = false := rfl
theorem k02 : ((0 : Int) == 2) = false := rfl
theorem k010 : ((0 : Int) == 10) = false := rfl
/-- A size: -1 where it is too long to be told. -/
def sizeOf (s : Bytes) : Int := bif (dec s).2 == 2 then -1 else (dec s).1
def nTE : Bytes := [84, 114, 97, 110, 115, 102, 101, 114, 45, 69, 110, 99, 111, 100, 105, 110, 103]
def nCL : Bytes := [67, 111, 110, 116, 101, 110, 116, 45, 76, 101, 110, 103, 116, 104]
def nTE' : Bytes := [116, 114, 97, 110, 115, 102, 101, 114, 45, 101, 110, 99, 111, 100, 105, 110, 103]
def nCL' : Bytes := [99, 111, 110, 116, 101, 110, 116, 45, 108, 101, 110, 103, 116, 104]
def chunked : Bytes := [99, 104, 117, 110, 107, 101, 100]
theorem big {n : Nat} (h : n ≤ 20000000000) : n ≤ maxLen := by unfold maxLen; omega
theorem gtz {α : Type} (l : List α) : decide (((l.length : Nat) : Int) > (0 : Int)) = decide (l.length > 0) := by simp <;> omega
theorem slc_cut {α : Type} (l : List α) (k : Nat) {K : Int} (hK : K = (k : Int)) : slc l 0 (imin (l.length : Int) K) = some (l.take k) := by
  subst hK
  unfold slc imin
  by_cases h : (k : Int) < (l.length : Int)
  · rw [if_pos h, chk_pos (by omega)]; simp
  · rw [if_neg h, chk_pos (by omega)]
    simp only [Int.toNat_zero, List.drop_zero, Int.toNat_natCast, Nat.sub_zero]
    rw [List.take_length, List.take_of_length_le (by omega)]
theorem digs : ([48, 49, 50, 51, 52, 53, 54, 55, 56, 57, 97, 98, 99, 100, 101, 102] : Bytes).length = 16 := rfl
theorem dig_slc (k : Nat) (h : k < 10) : slc ([48, 49, 50, 51, 52, 53, 54, 55, 56, 57, 97, 98, 99, 100, 101, 102] : Bytes) (k : Int) (IntKind.u64.wrap ((k : Int) + (1 : Int))) = some [UInt8.ofNat (48 + k)] := by
  have : k = 0 ∨ k = 1 ∨ k = 2 ∨ k = 3 ∨ k = 4 ∨ k = 5 ∨ k = 6 ∨ k = 7 ∨ k = 8 ∨ k = 9 := by omega
  rcases this with rfl | rfl | rfl | rfl | rfl | rfl | rfl | rfl | rfl | rfl <;> rfl
def digV (x : Int × Bytes) : Bytes := bif (bif decide (x.1 > 0) then true else (x.2 == ([] : Bytes))) then Lib.decDigits x.1.toNat ++ x.2 else x.2
theorem Dec_eq (n : Nat) (hn : n < 18446744073709551616) : number_Dec (n : Int) = some (Lib.decDigits n) := by
  unfold number_Dec strconv_FormatUint
  rw [chk_pos ⟨rfl, by omega, by omega⟩]
  rfl
theorem digits_le {n : Nat} (h : n ≤ 20000) : (Lib.decDigits n).length ≤ 5 := by
  rw [Lib.decDigits_length]
  have : ∀ (k u : Nat), u < 10 ^ (k + 1) → Lib.nDigits u ≤ k + 1 := by
    intro k
    induction k with
    | zero => intro u h; rw [Lib.nDigits_small (by omega)]; omega
    | succ k ih =>
      intro u h
      by_cases h10 : u < 10
      · rw [Lib.nDigits_small h10]; omega
      · rw [Lib.nDigits_big h10]
        have := ih (u / 10) (by
          have : u < 10 ^ (k + 1) * 10 := by rw [← Nat.pow_succ]; exact h
          omega)
        omega
  exact this 4 n (by simp; omega)
theorem digit_dig (k : Nat) (h : k < 10) : isDig (UInt8.ofNat (48 + k)) = true ∧ dv (UInt8.ofNat (48 + k)) = k := by
  have : k = 0 ∨ k = 1 ∨ k = 2 ∨ k = 3 ∨ k = 4 ∨ k = 5 ∨ k = 6 ∨ k = 7 ∨ k = 8 ∨ k = 9 := by omega
  rcases this with rfl | rfl | rfl | rfl | rfl | rfl | rfl | rfl | rfl | rfl <;> exact ⟨rfl, rfl⟩
theorem digits_ind {P : Nat → Prop} (h0 : ∀ n, n < 10 → P n) (h1 : ∀ n, ¬ n < 10 → P (n / 10) → P n) (n : Nat) : P n := by
  induction n using Nat.strongRecOn with
  | ind n ih =>
    by_cases h : n < 10
    · exact h0 n h
    · exact h1 n h (ih (n / 10) (by omega))
theorem digits_lo {n : Nat} (h : n < 10) : Lib.decDigits n = [UInt8.ofNat (48 + n)] := Lib.decDigits_one h
theorem digits_hi {n : Nat} (h : ¬ n < 10) : Lib.decDigits n = Lib.decDigits (n / 10) ++ [UInt8.ofNat (48 + n % 10)] := by rw [Lib.decDigits, dif_neg h]
theorem digits_all (n : Nat) : (Lib.decDigits n).all isDig = true := by
  refine digits_ind (P := fun n => (Lib.decDigits n).all isDig = true) (fun n h => ?_) (fun n h ih => ?_) n
  · rw [digits_lo h, List.all_cons, (digit_dig n h).1]; rfl
  · rw [digits_hi h, List.all_append, ih, List.all_cons, (digit_dig (n % 10) (by omega)).1]; rfl
theorem digits_ne (n : Nat) : (Lib.decDigits n == ([] : Bytes)) = false := by
  by_cases h : n < 10
  · rw [digits_lo h]; rfl
  · rw [digits_hi h]
    cases Lib.decDigits (n / 10) <;> rfl
theorem valF_append : ∀ (s t : Bytes) (z : Int), valF (s ++ t) z = valF t (valF s z)
  | [], _, _ => rfl
  | x :: s, t, z => valF_append s t _
theorem digits_val (n : Nat) : valF (Lib.decDigits n) 0 = n := by
  refine digits_ind (P := fun n => valF (Lib.decDigits n) 0 = n) (fun n h => ?_) (fun n h ih => ?_) n
  · rw [digits_lo h]
    show (0 : Int) * 10 + dv _ = _
    rw [(digit_dig n h).2]; omega
  · rw [digits_hi h, valF_append, ih]
    show ((n / 10 : Nat) : Int) * 10 + dv _ = _
    rw [(digit_dig (n % 10) (by omega)).2]; omega
theorem over_append : ∀ (s t : Bytes) (z : Int), over s z = false → over (s ++ t) z = over t (valF s z)
  | [], _, _, _ => rfl
  | x :: s, t, z, h => by
    unfold over at h
    cases hd : decide (z * 10 + dv x > 1099511627776) with
    | true => rw [hd] at h; cases h
    | false =>
      rw [hd] at h
      show (bif decide (z * 10 + dv x > 1099511627776) then true else over (s ++ t) (z * 10 + dv x)) = _
      rw [hd]
      exact over_append s t _ h
theorem digits_over (n : Nat) (h : n ≤ 1099511627776) : over (Lib.decDigits n) 0 = false := by
  revert h
  refine digits_ind (P := fun n => n ≤ 1099511627776 → over (Lib.decDigits n) 0 = false) (fun n h _ => ?_) (fun n h ih hn => ?_) n
  · rw [digits_lo h]
    show (bif decide ((0 : Int) * 10 + dv _ > 1099511627776) then true else false) = false
    rw [(digit_dig n h).2, show decide ((0 : Int) * 10 + (n : Int) > 1099511627776) = false by simp; omega]; rfl
  · rw [digits_hi h, over_append _ _ _ (ih (by omega)), digits_val]
    show (bif decide (((n / 10 : Nat) : Int) * 10 + dv _ > 1099511627776) then true else false) = false
    rw [(digit_dig (n % 10) (by omega)).2, show decide (((n / 10 : Nat) : Int) * 10 + ((n % 10 : Nat) : Int) > 1099511627776) = false by simp; omega]; rfl
theorem dec_digits {n : Nat} (h : n ≤ 1099511627776) : dec (Lib.decDigits n) = ((n : Int), 0) := by
  unfold dec decR
  rw [digits_ne, digits_all, digits_over n h, digits_val]
  rfl
theorem dropWhile_none {p : UInt8 → Bool} : ∀ {s : Bytes}, s.any p = false → s.dropWhile p = s
  | [], _ => rfl
  | x :: s, h => by
    rw [List.any_cons, Bool.or_eq_false_iff] at h
    rw [List.dropWhile_cons_of_neg (by rw [h.1]; exact Bool.false_ne_true)]
theorem trim_none {s : Bytes} (h : s.any blank = false) : trim s = s := by
  have h2 : s.reverse.any blank = false := by rw [List.any_reverse]; exact h
  unfold trim dropL dropR
  rw [dropWhile_none h2, List.reverse_reverse, dropWhile_none h]
theorem any_none {p q : UInt8 → Bool} (hpq : ∀ b, p b = true → q b = false) : ∀ {s : Bytes}, s.all p = true → s.any q = false
  | [], _ => rfl
  | x :: s, h => by
    rw [List.all_cons, Bool.and_eq_true] at h
    rw [List.any_cons, hpq x h.1, any_none hpq h.2]; rfl
theorem dig_plain (b : UInt8) (h : isDig b = true) : blank b = false ∧ ctlB b = false := by
  have := byte_all (p := fun b => !isDig b || (!blank b && !ctlB b)) (by kernel_rfl) b
  rw [h] at this
  simpa using this
def noSp (s : Bytes) : Bool := !(s.contains 32)
theorem noSp_cons {x : UInt8} {s : Bytes} (h : noSp (x :: s) = true) : (x = 32 → False) ∧ noSp s = true := by
  unfold noSp at h ⊢
  rw [List.contains_cons] at h
  simp at h ⊢
  exact ⟨fun e => h.1 e.symm, h.2⟩
theorem index_no : ∀ {s : Bytes}, noSp s = true → Lib.index s [32] = -1
  | [], _ => by simp [Lib.index]
  | x :: s, h => by
    obtain ⟨h1, h2⟩ := noSp_cons h
    have hp : ([32] : Bytes).isPrefixOf (x :: s) = false := by simp [List.isPrefixOf]; exact fun e => h1 e.symm
    rw [Lib.index, hp, index_no h2]; rfl
theorem index_at : ∀ {a : Bytes} (t : Bytes), noSp a = true → Lib.index (a ++ 32 :: t) [32] = (a.length : Int)
  | [], t, _ => by rw [List.nil_append, Lib.index]; simp [List.isPrefixOf]
  | x :: a, t, h => by
    obtain ⟨h1, h2⟩ := noSp_cons h
    have hp : ([32] : Bytes).isPrefixOf (x :: (a ++ 32 :: t)) = false := by simp [List.isPrefixOf]; exact fun e => h1 e.symm
    rw [List.cons_append, Lib.index, hp, index_at t h2]
    have : ((a.length : Int) == -1) = false := by simp
    simp [this]
theorem splitK_no {k : Nat} {s : Bytes} (h : noSp s = true) : Lib.splitK [32] 0 k s = [s] := by
  cases k with
  | zero => rfl
  | succ k => unfold Lib.splitK; rw [index_no h]; rfl
theorem splitK_at {k : Nat} {a t : Bytes} (h : noSp a = true) : Lib.splitK [32] 0 (k + 1) (a ++ 32 :: t) = a :: Lib.splitK [32] 0 k t := by
  conv => lhs; unfold Lib.splitK
  rw [index_at t h]
  have : ((a.length : Int) == -1) = false := by simp
  rw [this]
  simp
theorem count_no {s : Bytes} (h : noSp s = true) : Lib.count s [32] = 0 := Lib.count_miss (index_no h)
theorem count_at {a : Bytes} (t : Bytes) (h : noSp a = true) : Lib.count (a ++ 32 :: t) [32] = Lib.count t [32] + 1 := by
  rw [Lib.count_hit (by simp) (index_at t h)]
  simp [Nat.add_comm]
theorem split_no {s : Bytes} (h : noSp s = true) : Lib.split s [32] = [s] := splitK_no h
theorem split_at {a : Bytes} (t : Bytes) (h : noSp a = true) : Lib.split (a ++ 32 :: t) [32] = a :: Lib.split t [32] := by
  unfold Lib.split
  rw [count_at t h, splitK_at h]
theorem split_one (s : Bytes) : ∃ x l, Lib.split s [32] = x :: l := by
  unfold Lib.split
  cases Lib.count s [32] with
  | zero => exact ⟨_, _, rfl⟩
  | succ k =>
    unfold Lib.splitK
    split
    · exact ⟨_, _, rfl⟩
    · exact ⟨_, _, rfl⟩
def ver (n : Nat) : Bytes := [72, 84, 84, 80, 47, 49, 46] ++ Lib.decDigits n
def minorB (v : Bytes) : Int := bif v == ver 0 then 0 else bif v == ver 1 then 1 else 2
theorem split_small {s : Bytes} : ∀ x, x ∈ Lib.split s [32] → x.length ≤ s.length := by
  have key : ∀ (k : Nat) (s x : Bytes), x ∈ Lib.splitK [32] 0 k s → x.length ≤ s.length := by
    intro k
    induction k with
    | zero => intro s x h; simp [Lib.splitK] at h; subst h; exact Nat.le_refl _
    | succ k ih =>
      intro s x h
      unfold Lib.splitK at h
      split at h
      · simp at h; subst h; exact Nat.le_refl _
      · rcases List.mem_cons.1 h with rfl | h
        · rw [List.length_take]; omega
        · have := ih _ x h
          rw [List.length_drop] at this
          omega
  exact key _ s
theorem splitN_small {s : Bytes} {n : Nat} : ∀ x, x ∈ Lib.splitN s [32] n → x.length ≤ s.length := by
  have key : ∀ (k : Nat) (s x : Bytes), x ∈ Lib.splitK [32] 0 k s → x.length ≤ s.length := by
    intro k
    induction k with
    | zero => intro s x h; simp [Lib.splitK] at h; subst h; exact Nat.le_refl _
    | succ k ih =>
      intro s x h
      unfold Lib.splitK at h
      split at h
      · simp at h; subst h; exact Nat.le_refl _
      · rcases List.mem_cons.1 h with rfl | h
        · rw [List.length_take]; omega
        · have := ih _ x h
          rw [List.length_drop] at this
          omega
  exact key _ s
theorem sm {n : Nat} (h : n ≤ 1000000) : n ≤ maxLen := by unfold maxLen; omega
theorem idx0 {α : Type} (a : α) (l : List α) : idx (a :: l) (0 : Int) = some a := idx_at (i := 0) rfl
theorem idx1 {α : Type} (a b : α) (l : List α) : idx (a :: b :: l) (1 : Int) = some b := idx_at (i := 1) rfl
theorem idx2 {α : Type} (a b c : α) (l : List α) : idx (a :: b :: c :: l) (2 : Int) = some c := idx_at (i := 2) rfl
theorem dec_fits (s : Bytes) : 0 ≤ (dec s).1 ∧ (dec s).1 ≤ 1099511627776 := by
  have : (dec s).1 = 0 ∨ (0 ≤ (dec s).1 ∧ (dec s).1 ≤ 1099511627776) := by
    rcases dec_cases s with h | h | h
    · unfold dec decR at h ⊢
      revert h
      cases (s == ([] : Bytes)) with
      | true => intro _; exact .inl rfl
      | false =>
        cases s.all isDig with
        | false => intro _; exact .inl rfl
        | true =>
          cases over s 0 with
          | true => intro _; exact .inl rfl
          | false => intro h; exact absurd (show (0 : Int) = 10 from h) (by omega)
    · unfold dec decR at h ⊢
      revert h
      cases (s == ([] : Bytes)) with
      | true => intro _; exact .inl rfl
      | false =>
        cases s.all isDig with
        | false => intro _; exact .inl rfl
        | true =>
          cases over s 0 with
          | true => intro _; exact .inl rfl
          | false => intro h; exact absurd (show (0 : Int) = 2 from h) (by omega)
    · exact .inr h.2
  omega
theorem splitN3 {s : Bytes} (h : 2 ≤ s.length) : Lib.splitN s [32] 3 = Lib.splitK [32] 0 2 s := by
  unfold Lib.splitN
  rw [show min 3 (s.length + 1) - 1 = 2 by omega]
theorem splitK_le : ∀ (k : Nat) (s : Bytes), (Lib.splitK [32] 0 k s).length ≤ k + 1
  | 0, s => by simp [Lib.splitK]
  | k + 1, s => by
    unfold Lib.splitK
    split
    · simp
    · rw [List.length_cons]; have := splitK_le k (s.drop ((Lib.index s [32]).toNat + ([32] : Bytes).length)); omega
theorem splitN_le (s : Bytes) : (Lib.splitN s [32] 3).length ≤ 3 := by
  unfold Lib.splitN
  have := splitK_le (min 3 (s.length + 1) - 1) s
  omega
theorem join3 (a b c : Bytes) : Lib.join [a, b, c] [32] = a ++ 32 :: (b ++ 32 :: c) := by simp [Lib.join, List.intercalate]
theorem ver_cases {m : Int} (h : m = 0 ∨ m = 1) : ver m.toNat = [72, 84, 84, 80, 47, 49, 46, 48] ∨ ver m.toNat = [72, 84, 84, 80, 47, 49, 46, 49] := by
  unfold ver
  rcases h with rfl | rfl
  · left; rw [show (0 : Int).toNat = 0 from rfl, digits_lo (by omega)]; rfl
  · right; rw [show (1 : Int).toNat = 1 from rfl, digits_lo (by omega)]; rfl
theorem ver_len {m : Int} (h : m = 0 ∨ m = 1) : (ver m.toNat).length = 8 := by rcases ver_cases h with e | e <;> rw [e] <;> rfl
theorem ver_back {m : Int} (h : m = 0 ∨ m = 1) : minorB (ver m.toNat) = m := by
  unfold minorB
  have e0 : ver 0 = [72, 84, 84, 80, 47, 49, 46, 48] := by unfold ver; rw [digits_lo (by omega)]; rfl
  have e1 : ver 1 = [72, 84, 84, 80, 47, 49, 46, 49] := by unfold ver; rw [digits_lo (by omega)]; rfl
  rcases h with rfl | rfl
  · rw [show (0 : Int).toNat = 0 from rfl, e0, e1]; rfl
  · rw [show (1 : Int).toNat = 1 from rfl, e0, e1]; rfl
theorem digits_len {n : Nat} (h : n < 1000) : (Lib.decDigits n).length ≤ 3 := by
  by_cases h1 : n < 10
  · rw [digits_lo h1]; simp
  rw [digits_hi h1]
  by_cases h2 : n / 10 < 10
  · rw [digits_lo h2]; simp
  rw [digits_hi h2, digits_lo (by omega)]; simp
theorem digits_len3 {n : Nat} (h0 : 100 ≤ n) (h : n < 1000) : (Lib.decDigits n).length = 3 := by
  rw [digits_hi (by omega), digits_hi (by omega), digits_lo (by omega)]; rfl
theorem noSp_of {p : UInt8 → Bool} {s : Bytes} (hp : p 32 = false) (h : s.all p = true) : noSp s = true := by
  unfold noSp
  cases hc : s.contains 32 with
  | false => rfl
  | true =>
    have := List.contains_iff_mem.1 hc
    rw [List.all_eq_true] at h
    rw [h _ this] at hp; cases hp
theorem token_noSp {s : Bytes} (h : tokenB s = true) : noSp s = true := by
  unfold tokenB at h
  rw [Bool.and_eq_true] at h
  exact noSp_of (p := wordB) rfl h.2
theorem target_noSp {s : Bytes} (h : targetB s = true) : noSp s = true := by
  unfold targetB at h
  rw [Bool.or_eq_true, Bool.and_eq_true, Bool.and_eq_true] at h
  rcases h with h | h
  · rw [eq_of_beq h]; rfl
  · refine noSp_of (p := fun b => !badU b) (by decide) ?_
    have := h.2.2
    rw [← List.not_any_eq_all_not]; exact this
theorem ver_noSp {m : Int} (h : m = 0 ∨ m = 1) : noSp (ver m.toNat) = true := by rcases ver_cases h with e | e <;> rw [e] <;> rfl
theorem ver_noTok {m : Int} (h : m = 0 ∨ m = 1) : tokenB (ver m.toNat) = false := by rcases ver_cases h with e | e <;> rw [e] <;> rfl
theorem digits_noSp (n : Nat) : noSp (Lib.decDigits n) = true := noSp_of (p := isDig) rfl (digits_all n)
theorem tok_noMinor {s : Bytes} (h : tokenB s = true) : minorB s = 2 := by
  unfold minorB
  have e0 : ver 0 = [72, 84, 84, 80, 47, 49, 46, 48] := by unfold ver; rw [digits_lo (by omega)]; rfl
  have e1 : ver 1 = [72, 84, 84, 80, 47, 49, 46, 49] := by unfold ver; rw [digits_lo (by omega)]; rfl
  rw [e0, e1]
  cases h0 : (s == ([72, 84, 84, 80, 47, 49, 46, 48] : Bytes)) with
  | true => rw [eq_of_beq h0] at h; exact absurd h (by decide)
  | false =>
    cases h1 : (s == ([72, 84, 84, 80, 47, 49, 46, 49] : Bytes)) with
    | true => rw [eq_of_beq h1] at h; exact absurd h (by decide)
    | false => rfl
theorem splitN_two {a b t : Bytes} (ha : noSp a = true) (hb : noSp b = true) : Lib.splitN (a ++ 32 :: (b ++ 32 :: t)) [32] 3 = [a, b, t] := by
  rw [splitN3 (by simp; omega), splitK_at ha, splitK_at hb]; rfl
theorem splitN_one {a b : Bytes} (ha : noSp a = true) (hb : noSp b = true) (hn : b ≠ []) : Lib.splitN (a ++ 32 :: b) [32] 3 = [a, b] := by
  rw [splitN3 (by cases b with | nil => exact absurd rfl hn | cons x l => simp; omega), splitK_at ha, splitK_no hb]
def reasonTbl : List (Int × Bytes) := [(200, [79, 75]), (304, [78, 111, 116, 32, 77, 111, 100, 105, 102, 105, 101, 100]), (400, [66, 97, 100, 32, 82, 101, 113, 117, 101, 115, 116]), (404, [78, 111, 116, 32, 70, 111, 117, 110, 100]),
  (413, [84, 111, 111, 32, 76, 97, 114, 103, 101]), (431, [70, 105, 101, 108, 100, 115, 32, 84, 111, 111, 32, 76, 97, 114, 103, 101]), (500, [73, 110, 116, 101, 114, 110, 97, 108, 32, 69, 114, 114, 111, 114]), (502, [66, 97, 100, 32, 71, 97, 116, 101, 119, 97, 121]),
  (504, [71, 97, 116, 101, 119, 97, 121, 32, 84, 105, 109, 101, 111, 117, 116])]
def reasonL (l : List (Int × Bytes)) (n : Int) : Bytes := bif mhas l n then mget ([] : Bytes) l n else [85, 110, 107, 110, 111, 119, 110]
def reasonB (n : Int) : Bytes := reasonL reasonTbl n
def reasonOk (t : Bytes) : Bool := decide (t.length ≤ 100) && ((trim t == t) && !(t.any ctlB))
theorem reason_ok (n : Int) : reasonOk (reasonB n) = true := by
  have key : ∀ (l : List (Int × Bytes)), (l.all fun p => reasonOk p.2) = true → reasonOk (reasonL l n) = true := by
    intro l
    induction l with
    | nil => intro _; kernel_rfl
    | cons p l ih =>
      intro h
      rw [List.all_cons, Bool.and_eq_true] at h
      unfold reasonL mhas mget
      cases hb : (n == p.1) with
      | true => exact h.1
      | false => exact ih h.2
  exact key _ (by kernel_rfl)
theorem sp_cases : ∀ (s : Bytes), noSp s = true ∨ ∃ a t, s = a ++ 32 :: t ∧ noSp a = true
  | [] => .inl rfl
  | x :: s => by
    by_cases hx : x = 32
    · subst hx; exact .inr ⟨[], s, rfl, rfl⟩
    · have hc : ∀ (a : Bytes), noSp a = true → noSp (x :: a) = true := fun a ha => by
        unfold noSp at ha ⊢
        rw [List.contains_cons]
        have : ((32 : UInt8) == x) = false := by simpa using fun e => hx e.symm
        rw [this]; exact ha
      rcases sp_cases s with h | ⟨a, t, rfl, h⟩
      · exact .inl (hc _ h)
      · exact .inr ⟨x :: a, t, rfl, hc _ h⟩
theorem split_three {l a b v : Bytes} (h : Lib.split l [32] = [a, b, v]) : l = a ++ 32 :: (b ++ 32 :: v) ∧ noSp a = true ∧ noSp b = true ∧ noSp v = true := by
  rcases sp_cases l with h1 | ⟨a1, t1, rfl, h1⟩
  · rw [split_no h1] at h; simp at h
  rw [split_at _ h1] at h
  injection h with e1 h
  subst e1
  rcases sp_cases t1 with h2 | ⟨a2, t2, rfl, h2⟩
  · rw [split_no h2] at h; simp at h
  rw [split_at _ h2] at h
  injection h with e2 h
  subst e2
  rcases sp_cases t2 with h3 | ⟨a3, t3, rfl, h3⟩
  · rw [split_no h3] at h
    injection h with e3 _
    subst e3
    exact ⟨rfl, h1, h2, h3⟩
  · rw [split_at _ h3] at h
    injection h with e3 h
    obtain ⟨x, l, hx⟩ := split_one t3
    rw [hx] at h; simp at h
theorem minorB_cases (v : Bytes) : (minorB v = 0 ∧ v = ver 0) ∨ (minorB v = 1 ∧ v = ver 1) ∨ (minorB v = 2 ∧ v ≠ ver 0 ∧ v ≠ ver 1) := by
  unfold minorB
  cases h0 : (v == ver 0) with
  | true => exact .inl ⟨rfl, eq_of_beq h0⟩
  | false =>
    cases h1 : (v == ver 1) with
    | true => exact .inr (.inl ⟨rfl, eq_of_beq h1⟩)
    | false => exact .inr (.inr ⟨rfl, by simpa using h0, by simpa using h1⟩)
/-- The words of an answer's line. -/
theorem splitN_words {l v c r : Bytes} (h : Lib.splitN l [32] 3 = [v, c] ∧ r = [] ∨ Lib.splitN l [32] 3 = [v, c, r]) : ∃ t, l = v ++ 32 :: t := by
  rcases sp_cases l with h1 | ⟨a1, t1, rfl, h1⟩
  · have : Lib.splitN l [32] 3 = [l] := by
      unfold Lib.splitN
      exact splitK_no h1
    rw [this] at h; simp at h
  refine ⟨t1, ?_⟩
  have : ∃ w, Lib.splitN (a1 ++ 32 :: t1) [32] 3 = a1 :: w := by
    unfold Lib.splitN
    have : ∃ k, min 3 ((a1 ++ 32 :: t1).length + 1) - 1 = k + 1 := ⟨min 3 ((a1 ++ 32 :: t1).length + 1) - 2, by simp; omega⟩
    obtain ⟨k, hk⟩ := this
    rw [hk, splitK_at h1]
    exact ⟨_, rfl⟩
  obtain ⟨w, hw⟩ := this
  rw [hw] at h
  rcases h with ⟨h, _⟩ | h
  · injection h with h; rw [h]
  · injection h with h; rw [h]
theorem ver_take {v t : Bytes} (h : v = ver 0 ∨ v = ver 1) : (v ++ 32 :: t).take 7 = [72, 84, 84, 80, 47, 49, 46] := by
  have e0 : ver 0 = [72, 84, 84, 80, 47, 49, 46, 48] := by unfold ver; rw [digits_lo (by omega)]; rfl
  have e1 : ver 1 = [72, 84, 84, 80, 47, 49, 46, 49] := by unfold ver; rw [digits_lo (by omega)]; rfl
  rcases h with rfl | rfl
  · rw [e0]; rfl
  · rw [e1]; rfl
end Go.Proofs.YtkfoahoplndelaaGreatDoor
