/-
  Plain laws: what is used of the plain texts of another seat.
-/
import Derived.Test.YtpionnihpibglaaGreatDoorIw1
import Derived.KernelRfl
import Derived.Lib.SplitLaws
namespace Go.Proofs.YtpionnihpibglaaGreatDoor
open Go Go.Pm
set_option linter.unusedSimpArgs false
set_option linter.unusedVariables false
theorem loopO_rec {σ ρ : Type} {body : σ → Option (σ ⊕ ρ)} (V : σ → ρ) (μ : σ → Nat) (Inv : σ → Prop)
    (h : ∀ x, Inv x → (∃ y, body x = some (.inl y) ∧ Inv y ∧ μ y < μ x ∧ V x = V y) ∨ body x = some (.inr (V x))) : ∀ x, Inv x → loopO body x = some (V x) := by
  have key : ∀ n x, μ x ≤ n → Inv x → loopO body x = some (V x) := by
    intro n
    induction n with
    | zero =>
      intro x hx hi
      rw [loopO_eq]
      rcases h x hi with ⟨y, h1, h2, h3, h4⟩ | h1
      · omega
      · rw [h1]
    | succ n ih =>
      intro x hx hi
      rw [loopO_eq]
      rcases h x hi with ⟨y, h1, h2, h3, h4⟩ | h1
      · rw [h1, h4]; exact ih y (by omega) h2
      · rw [h1]
  exact fun x => key (μ x) x (Nat.le_refl _)
def foldE {α β ρ : Type} (step : β → α → β ⊕ ρ) (fin : β → ρ) : List α → β → ρ
  | [], b => fin b
  | x :: l, b => match step b x with
    | .inl b' => foldE step fin l b'
    | .inr r => r
theorem foldE_cons {α β ρ : Type} (step : β → α → β ⊕ ρ) (fin : β → ρ) (x : α) (l : List α) (b : β) : foldE step fin (x :: l) b = match step b x with
    | .inl b' => foldE step fin l b'
    | .inr r => r := by rw [foldE]
theorem loop_list {α β ρ σ : Type} {body : σ → Option (σ ⊕ ρ)} (l : List α) (mk : Nat → β → σ) (step : β → α → β ⊕ ρ) (fin : β → ρ) (Inv : Nat → β → Prop)
    (hs : ∀ (i : Nat) (b : β) (x : α), l[i]? = some x → Inv i b → (∃ b', step b x = .inl b' ∧ body (mk i b) = some (.inl (mk (i + 1) b')) ∧ Inv (i + 1) b') ∨ (∃ r, step b x = .inr r ∧ body (mk i b) = some (.inr r)))
    (hf : ∀ b, Inv l.length b → body (mk l.length b) = some (.inr (fin b))) : ∀ b0, Inv 0 b0 → loopO body (mk 0 b0) = some (foldE step fin l b0) := by
  have key : ∀ (m i : Nat) (b : β), m + i = l.length → Inv i b → loopO body (mk i b) = some (foldE step fin (l.drop i) b) := by
    intro m
    induction m with
    | zero =>
      intro i b hm hi
      have : i = l.length := by omega
      subst this
      rw [loopO_eq, hf b hi, List.drop_length]; rfl
    | succ m ih =>
      intro i b hm hi
      have hlt : i < l.length := by omega
      rw [List.drop_eq_getElem_cons hlt]
      rcases hs i b l[i] (List.getElem?_eq_getElem hlt) hi with ⟨b', h1, h2, h3⟩ | ⟨r, h1, h2⟩
      · rw [loopO_eq, h2]
        show loopO body (mk (i + 1) b') = _
        rw [ih (i + 1) b' (by omega) h3]
        unfold foldE
        rw [h1]
        cases hd : l.drop (i + 1) <;> rfl
      · rw [loopO_eq, h2]
        unfold foldE
        rw [h1]
  intro b0 h0
  have := key l.length 0 b0 (by omega) h0
  rwa [List.drop_zero] at this
theorem wrap_i64 {n : Int} (h : -9223372036854775808 ≤ n) (h' : n ≤ 9223372036854775807) : IntKind.i64.wrap n = n := i64_ok h h'
theorem wrap_inc {i n : Nat} (h : i < n) (hn : n ≤ maxLen) : IntKind.i64.wrap ((i : Int) + (1 : Int)) = ((i + 1 : Nat) : Int) := i64_inc h hn
theorem wrap_u64 {n : Int} (h : 0 ≤ n) (h' : n ≤ 18446744073709551615) : IntKind.u64.wrap n = n := IntWalk.u64_in n (by omega)
theorem idx_at {α : Type} {l : List α} {i : Nat} {x : α} (h : l[i]? = some x) : idx l (i : Int) = some x := by
  unfold idx
  rw [show decide ((0 : Int) ≤ (i : Int)) = true by simp]
  exact h
theorem dlt_true {i n : Nat} (h : i < n) : decide ((i : Int) < (n : Int)) = true := by simp; omega
theorem dlt_self (n : Nat) : decide ((n : Int) < (n : Int)) = false := by simp
theorem lt_of_get {α : Type} {l : List α} {i : Nat} {x : α} (h : l[i]? = some x) : i < l.length := (List.getElem?_eq_some_iff.1 h).1
theorem byte_all {p : UInt8 → Bool} (h : ((List.range 256).all fun n => p (UInt8.ofNat n)) = true) (b : UInt8) : p b = true := by
  have := List.all_eq_true.1 h b.toNat (List.mem_range.2 b.toNat_lt)
  simpa using this
theorem byte_eq {p q : UInt8 → Bool} (h : ((List.range 256).all fun n => p (UInt8.ofNat n) == q (UInt8.ofNat n)) = true) (b : UInt8) : p b = q b := by
  have := byte_all (p := fun b => p b == q b) h b
  simpa using this
theorem u8_nat (b : UInt8) : u8 (b.toNat : Int) = b := by unfold u8; simp
def idxP {α : Type} (p : α → Bool) : List α → Nat → Int
  | [], _ => -1
  | x :: l, i => bif p x then (i : Int) else idxP p l (i + 1)
theorem idxP_any {α : Type} (p : α → Bool) : ∀ (s : List α) (i : Nat), decide (idxP p s i ≥ (0 : Int)) = s.any p
  | [], _ => rfl
  | x :: l, i => by
    unfold idxP
    cases hx : p x with
    | true => simp [hx]
    | false => simp only [cond_false, List.any_cons, hx, Bool.false_or]; exact idxP_any p l (i + 1)
theorem foldE_idx {α : Type} (p : α → Bool) : ∀ (l : List α) (i : Nat), foldE (β := Nat) (fun j x => bif p x then .inr (j : Int) else .inl (j + 1)) (fun _ => (-1 : Int)) l i = idxP p l i
  | [], _ => rfl
  | x :: l, i => by
    unfold foldE idxP
    cases p x with
    | true => rfl
    | false => exact foldE_idx p l (i + 1)
theorem IndexFunc_byte {l : Bytes} {pi : Int → Option Bool} (p : UInt8 → Bool) (hp : ∀ b, pi (b.toNat : Int) = some (p b)) (hl : l.length ≤ maxLen) : slices_IndexFunc__byte_byte l pi = some (idxP p l 0) := by
  unfold slices_IndexFunc__byte_byte
  rw [← foldE_idx]
  refine loop_list l (fun i _ => (i : Int)) _ _ (fun i b => b = i) (fun i b x hx hi => ?_) (fun b hi => ?_) 0 rfl
  · subst hi
    have hlt := lt_of_get hx
    unfold slices_IndexFunc__byte_byte_b1
    rw [dlt_true hlt, cond_true, idx_at hx, Option.bind_some, hp, Option.bind_some]
    cases p x with
    | true => exact .inr ⟨_, rfl, rfl⟩
    | false => exact .inl ⟨_, rfl, by rw [wrap_inc hlt hl]; rfl, rfl⟩
  · unfold slices_IndexFunc__byte_byte_b1
    rw [dlt_self]; rfl
theorem ContainsFunc_byte {l : Bytes} {pi : Int → Option Bool} (p : UInt8 → Bool) (hp : ∀ b, pi (b.toNat : Int) = some (p b)) (hl : l.length ≤ maxLen) : slices_ContainsFunc__byte_byte l pi = some (l.any p) := by
  unfold slices_ContainsFunc__byte_byte
  rw [IndexFunc_byte p hp hl, Option.bind_some, idxP_any]
theorem IndexFunc_field {l : List S_Field} {pi : S_Field → Option Bool} (p : S_Field → Bool) (hp : ∀ b, b ∈ l → pi b = some (p b)) (hl : l.length ≤ maxLen) : slices_IndexFunc__api_Field_api_Field l pi = some (idxP p l 0) := by
  unfold slices_IndexFunc__api_Field_api_Field
  rw [← foldE_idx]
  refine loop_list l (fun i _ => (i : Int)) _ _ (fun i b => b = i) (fun i b x hx hi => ?_) (fun b hi => ?_) 0 rfl
  · subst hi
    have hlt := lt_of_get hx
    unfold slices_IndexFunc__api_Field_api_Field_b1
    rw [dlt_true hlt, cond_true, idx_at hx, Option.bind_some, hp x (List.mem_of_getElem? hx), Option.bind_some]
    cases p x with
    | true => exact .inr ⟨_, rfl, rfl⟩
    | false => exact .inl ⟨_, rfl, by rw [wrap_inc hlt hl]; rfl, rfl⟩
  · unfold slices_IndexFunc__api_Field_api_Field_b1
    rw [dlt_self]; rfl
theorem ContainsFunc_field {l : List S_Field} {pi : S_Field → Option Bool} (p : S_Field → Bool) (hp : ∀ b, b ∈ l → pi b = some (p b)) (hl : l.length ≤ maxLen) : slices_ContainsFunc__api_Field_api_Field l pi = some (l.any p) := by
  unfold slices_ContainsFunc__api_Field_api_Field
  rw [IndexFunc_field p hp hl, Option.bind_some, idxP_any]
theorem IndexByte_eq (s : Bytes) (c : Int) : strings_IndexByte s c = some (Lib.indexByte s (u8 c)) := rfl
theorem indexByte_has (s : Bytes) (c : UInt8) : decide (Lib.indexByte s c ≥ (0 : Int)) = s.contains c := by
  induction s with
  | nil => rfl
  | cons b l ih =>
    have h1 := Lib.indexByte_ge l c
    unfold Lib.indexByte
    by_cases hb : b = c
    · subst hb; simp
    · have hb' : (b == c) = false := by simpa using hb
      rw [hb', List.contains_cons]
      have hc : (c == b) = false := by simpa using fun h => hb h.symm
      rw [hc, Bool.false_or, ← ih]
      by_cases h2 : Lib.indexByte l c = -1
      · simp [h2]
      · have h3 : (Lib.indexByte l c == -1) = false := by simpa using h2
        simp only [Bool.false_eq_true, if_false, h3]
        rw [show decide (Lib.indexByte l c + 1 ≥ 0) = true by simp; omega, show decide (Lib.indexByte l c ≥ 0) = true by simp; omega]
theorem gcall_tt {α : Type} [Inhabited α] {g : Bool} {o : Option α} (h : g = true) : gcall g o = o := by subst h; rfl
theorem gcall_ff {α : Type} [Inhabited α] {g : Bool} {o : Option α} (h : g = false) : gcall g o = some default := by subst h; rfl
theorem gcall_val {α : Type} [Inhabited α] {g : Bool} {o : Option α} {x : α} (h : g = true → o = some x) : gcall g o = some (bif g then x else default) := by
  cases g with
  | true => exact h rfl
  | false => rfl
theorem chk_pos {α : Type} {p : Prop} [Decidable p] {o : Option α} (h : p) : chk p o = o := by unfold chk; rw [if_pos h]
def wordB (b : UInt8) : Bool := (b ≥ 97 && b ≤ 122) || (b ≥ 65 && b ≤ 90) || (b ≥ 48 && b ≤ 57) || ([33, 35, 36, 37, 38, 39, 42, 43, 45, 46, 94, 95, 124, 126, 96] : List UInt8).contains b
def toks : List Bool := (List.range 256).map fun n => wordB (UInt8.ofNat n)
theorem tokens_eq : text_tokens = some toks := by
  unfold text_tokens
  rw [(loopO_some (r := toks)).2 ⟨257, by kernel_rfl⟩, Option.bind_some]
  exact chk_pos (by unfold toks; simp)
theorem toks_get (b : UInt8) : toks[b.toNat]? = some (wordB b) := by
  unfold toks
  rw [List.getElem?_map, List.getElem?_range b.toNat_lt]
  simp
theorem has_eq (b : UInt8) : text_set_has toks (b.toNat : Int) = some (wordB b) := by
  have := b.toNat_lt
  unfold text_set_has
  rw [chk_pos (by omega), idx_at (toks_get b)]; rfl
theorem text_all_eq {s : Bytes} (hs : s.length ≤ maxLen) : text_all s toks (fun x0 x1 => text_set_has x0 x1) = some (s.all wordB) := by
  unfold text_all
  have hfold : ∀ (l : Bytes), foldE (β := Unit) (fun _ b => bif wordB b then .inl () else .inr false) (fun _ => true) l () = l.all wordB := by
    intro l
    induction l with
    | nil => rfl
    | cons x l ih =>
      unfold foldE
      cases hx : wordB x with
      | true => simp only [cond_true, List.all_cons, hx, Bool.true_and]; exact ih
      | false => simp [hx]
  rw [← hfold]
  refine loop_list s (fun i _ => (i : Int)) _ _ (fun _ _ => True) (fun i b x hx _ => ?_) (fun b _ => ?_) () trivial
  · have hlt := lt_of_get hx
    unfold text_all_b1
    rw [dlt_true hlt, cond_true, idx_at hx, Option.bind_some, show (fun x0 x1 => text_set_has x0 x1) = text_set_has from rfl, has_eq, Option.bind_some]
    cases wordB x with
    | true => exact .inl ⟨(), rfl, by rw [wrap_inc hlt hs]; rfl, trivial⟩
    | false => exact .inr ⟨_, rfl, rfl⟩
  · unfold text_all_b1
    rw [dlt_self]; rfl
def tokenB (s : Bytes) : Bool := (!(s == ([] : Bytes))) && s.all wordB
theorem Token_eq {s : Bytes} (hs : s.length ≤ maxLen) : text_Token s = some (tokenB s) := by
  unfold text_Token
  rw [gcall_val (x := toks) (fun _ => tokens_eq), Option.bind_some]
  cases h : (!(s == ([] : Bytes))) with
  | false => rw [gcall_ff rfl, Option.bind_some]; unfold tokenB; rw [h]; rfl
  | true =>
    rw [gcall_tt rfl, cond_true, text_all_eq hs, Option.bind_some]
    unfold tokenB; rw [h]; rfl
def blank (b : UInt8) : Bool := b == 32 || b == 9
def dropL (p : UInt8 → Bool) (s : Bytes) : Bytes := s.dropWhile p
def dropR (p : UInt8 → Bool) (s : Bytes) : Bytes := (s.reverse.dropWhile p).reverse
def trim (s : Bytes) : Bytes := dropL blank (dropR blank s)
theorem dropR_snoc (p : UInt8 → Bool) (s : Bytes) (b : UInt8) : dropR p (s ++ [b]) = bif p b then dropR p s else s ++ [b] := by
  unfold dropR
  rw [List.reverse_append, List.reverse_cons, List.reverse_nil, List.nil_append, List.singleton_append, List.dropWhile_cons]
  cases p b <;> simp
theorem dropL_le (p : UInt8 → Bool) (s : Bytes) : (dropL p s).length ≤ s.length := (List.dropWhile_sublist p).length_le
theorem dropR_le (p : UInt8 → Bool) (s : Bytes) : (dropR p s).length ≤ s.length := by
  unfold dropR
  have := (List.dropWhile_sublist p (l := s.reverse)).length_le
  simpa using this
theorem trim_le (s : Bytes) : (trim s).length ≤ s.length := Nat.le_trans (dropL_le ..) (dropR_le ..)
theorem loopL {body : Bytes → Option (Bytes ⊕ Bytes)} (p : UInt8 → Bool) (n : Nat) (h0 : body [] = some (.inr [])) (h1 : ∀ x t, t.length < n → body (x :: t) = some (bif p x then .inl t else .inr (x :: t))) :
    ∀ s, s.length ≤ n → loopO body s = some (dropL p s) := by
  refine loopO_rec (dropL p) List.length (fun s => s.length ≤ n) fun s hs => ?_
  cases s with
  | nil => exact .inr h0
  | cons x t =>
    have hb := h1 x t (by simp at hs; omega)
    cases hx : p x with
    | true =>
      rw [hx] at hb
      exact .inl ⟨t, hb, by simp at hs; omega, by simp, by unfold dropL; rw [List.dropWhile_cons_of_pos hx]⟩
    | false =>
      rw [hx] at hb
      refine .inr ?_
      rw [hb]; unfold dropL
      rw [List.dropWhile_cons_of_neg (by simp [hx])]; rfl
theorem loopR {body : Bytes → Option (Bytes ⊕ Bytes)} (p : UInt8 → Bool) (n : Nat) (h0 : body [] = some (.inr [])) (h1 : ∀ x t, t.length < n → body (t ++ [x]) = some (bif p x then .inl t else .inr (t ++ [x]))) :
    ∀ s, s.length ≤ n → loopO body s = some (dropR p s) := by
  refine loopO_rec (dropR p) List.length (fun s => s.length ≤ n) fun s hs => ?_
  rcases List.eq_nil_or_concat s with rfl | ⟨t, x, rfl⟩
  · exact .inr h0
  · rw [List.concat_eq_append] at hs ⊢
    have hb := h1 x t (by simp at hs; omega)
    rw [dropR_snoc]
    cases hx : p x with
    | true =>
      rw [hx] at hb
      exact .inl ⟨t, hb, by simp at hs; omega, by simp, rfl⟩
    | false =>
      rw [hx] at hb
      exact .inr hb
theorem slc_tail (x : UInt8) (t : Bytes) : slc (x :: t) (1 : Int) (((x :: t).length : Nat) : Int) = some t := by
  unfold slc
  rw [chk_pos (by simp; omega)]
  simp
theorem slc_init (x : UInt8) (t : Bytes) (h : t.length < maxLen) : slc (t ++ [x]) 0 (IntKind.i64.wrap (((t ++ [x]).length : Int) - (1 : Int))) = some t := by
  have : IntKind.i64.wrap (((t ++ [x]).length : Int) - (1 : Int)) = (t.length : Int) := by
    unfold maxLen at h
    have e : ((t ++ [x]).length : Int) = (t.length : Int) + 1 := by simp
    rw [e, wrap_i64 (by omega) (by omega)]; omega
  rw [this]
  unfold slc
  rw [chk_pos (by simp; omega)]
  simp
theorem idx_last (x : UInt8) (t : Bytes) (h : t.length < maxLen) : idx (t ++ [x]) (IntKind.i64.wrap (((t ++ [x]).length : Int) - (1 : Int))) = some x := by
  have : IntKind.i64.wrap (((t ++ [x]).length : Int) - (1 : Int)) = (t.length : Int) := by
    unfold maxLen at h
    have e : ((t ++ [x]).length : Int) = (t.length : Int) + 1 := by simp
    rw [e, wrap_i64 (by omega) (by omega)]; omega
  rw [this]
  exact idx_at (by simp)
theorem dgt_cons (x : UInt8) (t : Bytes) : decide ((((x :: t).length : Nat) : Int) > (0 : Int)) = true := by simp
theorem dgt_snoc (x : UInt8) (t : Bytes) : decide ((((t ++ [x]).length : Nat) : Int) > (0 : Int)) = true := by simp
def bset : List Bool := (List.range 256).map fun n => blank (UInt8.ofNat n)
theorem bset_get (b : UInt8) : bset[b.toNat]? = some (blank b) := by
  unfold bset
  rw [List.getElem?_map, List.getElem?_range b.toNat_lt]
  simp
theorem bset_eq : strings_makeASCIISet [32, 9] = some (bset, true) := by
  unfold strings_makeASCIISet
  exact loopO_some.2 ⟨3, by kernel_rfl⟩
theorem contains_eq (b : UInt8) : strings_asciiSet_contains bset (b.toNat : Int) = some (blank b) := by
  have := b.toNat_lt
  unfold strings_asciiSet_contains
  rw [chk_pos (by omega), idx_at (bset_get b)]; rfl
theorem trimLeftASCII_eq {s : Bytes} : strings_trimLeftASCII s bset = some (dropL blank s) := by
  unfold strings_trimLeftASCII
  rw [loopL blank s.length rfl (fun x t _ => ?_) s (Nat.le_refl _)]
  · rfl
  · unfold strings_trimLeftASCII_b1
    rw [dgt_cons, cond_true, show idx (x :: t) (0 : Int) = some x from rfl, Option.bind_some, contains_eq, Option.bind_some, slc_tail, Option.bind_some]
    cases blank x <;> rfl
theorem trimRightASCII_eq {s : Bytes} (hs : s.length ≤ maxLen) : strings_trimRightASCII s bset = some (dropR blank s) := by
  unfold strings_trimRightASCII
  rw [loopR blank s.length rfl (fun x t ht => ?_) s (Nat.le_refl _)]
  · rfl
  · unfold strings_trimRightASCII_b1
    rw [dgt_snoc, cond_true, idx_last x t (by omega), Option.bind_some, contains_eq, Option.bind_some, slc_init x t (by omega), Option.bind_some]
    cases blank x <;> rfl
theorem Trim_eq {s : Bytes} (hs : s.length ≤ maxLen) : text_Trim s = some (trim s) := by
  unfold text_Trim strings_Trim
  by_cases h : s = []
  · subst h; rfl
  · have h1 : (s == ([] : Bytes)) = false := by simpa using h
    rw [h1, show (bif false then true else (([32, 9] : Bytes) == ([] : Bytes))) = false from rfl, cond_false, show gidx ((([32, 9] : Bytes).length : Int) == (1 : Int)) ([32, 9] : Bytes) (0 : Int) = some default from rfl, Option.bind_some]
    rw [show (bif ((([32, 9] : Bytes).length : Int) == (1 : Int)) then (decide (((default : UInt8).toNat : Int) < (128 : Int))) else false) = false from rfl, cond_false, bset_eq, Option.bind_some, chk_pos (by unfold bset; simp), chk_pos (by unfold bset; simp)]
    rw [cond_true, trimRightASCII_eq hs, Option.bind_some, trimLeftASCII_eq]; rfl
theorem gidx_tt {α : Type} [Inhabited α] {g : Bool} {l : List α} {n : Int} (h : g = true) : gidx g l n = idx l n := by subst h; rfl
def hasPre (s p : Bytes) : Bool := p.isPrefixOf s
theorem HasPrefix_eq (s p : Bytes) : strings_HasPrefix s p = some (hasPre s p) := by
  unfold strings_HasPrefix stringslite_HasPrefix gslc
  rw [chk_pos (fun h => by simp at h; omega)]
  simp only [Option.bind_some]
  refine congrArg some ?_
  unfold hasPre
  by_cases h : p.length ≤ s.length
  · rw [show decide ((s.length : Int) ≥ (p.length : Int)) = true by simp; omega, cond_true, Bool.eq_iff_iff, beq_iff_eq, List.isPrefixOf_iff_prefix, List.prefix_iff_eq_take]
    simp only [Int.toNat_zero, List.drop_zero, Int.toNat_natCast, Nat.sub_zero]
    exact ⟨fun h => h.symm, fun h => h.symm⟩
  · rw [show decide ((s.length : Int) ≥ (p.length : Int)) = false by simp; omega, cond_false]
    symm
    rw [Bool.eq_false_iff]
    intro hp
    have := (List.isPrefixOf_iff_prefix.1 hp).length_le
    omega
def lowB (b : UInt8) : UInt8 := bif b ≥ 65 && b ≤ 90 then b + 32 else b
def lower (s : Bytes) : Bytes := s.map lowB
theorem lower_len (s : Bytes) : (lower s).length = s.length := by simp [lower]
theorem low1 (b : UInt8) : (bif (bif (decide ((b.toNat : Int) ≥ (65 : Int))) then (decide ((b.toNat : Int) ≤ (90 : Int))) else false) then u8 (IntKind.u8.wrap ((IntKind.u8.wrap ((b.toNat : Int) + (97 : Int))) - (65 : Int))) else b) = lowB b := by
  have := byte_all (p := fun b => (bif (bif (decide ((b.toNat : Int) ≥ (65 : Int))) then (decide ((b.toNat : Int) ≤ (90 : Int))) else false) then u8 (IntKind.u8.wrap ((IntKind.u8.wrap ((b.toNat : Int) + (97 : Int))) - (65 : Int))) else b) == lowB b) (by kernel_rfl) b
  simpa using this
theorem low2 (b : UInt8) : (bif (bif (decide ((b.toNat : Int) ≥ (65 : Int))) then (decide ((b.toNat : Int) ≤ (90 : Int))) else false) then u8 (IntKind.u8.wrap ((b.toNat : Int) + (32 : Int))) else b) = lowB b := by
  have := byte_all (p := fun b => (bif (bif (decide ((b.toNat : Int) ≥ (65 : Int))) then (decide ((b.toNat : Int) ≤ (90 : Int))) else false) then u8 (IntKind.u8.wrap ((b.toNat : Int) + (32 : Int))) else b) == lowB b) (by kernel_rfl) b
  simpa using this
theorem seti_at {α : Type} {l : List α} {i : Nat} {x : α} (h : i < l.length) : seti l (i : Int) x = some (l.set i x) := by
  unfold seti
  rw [chk_pos (by omega), Int.toNat_natCast]
theorem Lower_eq {s : Bytes} (hs : s.length ≤ maxLen) : text_Lower s = some (lower s) := by
  unfold text_Lower
  have key : loopO (text_Lower_b1 s) ((0 : Int), s) = some (lower s) := by
    have h := loopO_rec (body := text_Lower_b1 s) (fun _ => lower s) (fun x => s.length - x.1.toNat) (fun x => ∃ i : Nat, i ≤ s.length ∧ x = ((i : Int), lower (s.take i) ++ s.drop i)) ?_ ((0 : Int), s) ⟨0, Nat.zero_le _, by simp [lower]⟩
    · exact h
    · rintro _ ⟨i, hi, rfl⟩
      rcases Nat.lt_or_ge i s.length with hlt | hge
      · left
        have hget : (lower (s.take i) ++ s.drop i)[i]? = some s[i] := by
          rw [List.getElem?_append_right (by simp [lower]; omega)]
          simp [lower, show min i s.length = i by omega]
        have hll : (lower (s.take i) ++ s.drop i).length = s.length := by simp [lower]; omega
        refine ⟨(((i + 1 : Nat) : Int), lower (s.take (i + 1)) ++ s.drop (i + 1)), ?_, ⟨i + 1, hlt, rfl⟩, by simp; omega, rfl⟩
        have hnew : (lower (s.take i) ++ s.drop i).set i (lowB s[i]) = lower (s.take (i + 1)) ++ s.drop (i + 1) := by
          rw [List.take_succ_eq_append_getElem hlt, List.drop_eq_getElem_cons hlt]
          have hl : (lower (s.take i)).length = i := by simp [lower]; omega
          rw [List.set_append_right _ _ (by omega), hl, Nat.sub_self, List.set_cons_zero]
          unfold lower
          rw [List.map_append, List.append_assoc]; rfl
        have hsame : lowB s[i] = s[i] → lower (s.take i) ++ s.drop i = lower (s.take (i + 1)) ++ s.drop (i + 1) := fun h => by
          rw [← hnew, h]
          refine (List.ext_getElem? fun j => ?_)
          rw [List.getElem?_set]
          by_cases hj : i = j
          · subst hj; rw [if_pos rfl, if_pos (by omega), hget]
          · rw [if_neg hj]
        unfold text_Lower_b1
        dsimp only
        rw [dlt_true hlt, cond_true, chk_pos (by omega), idx_at hget, Option.bind_some, chk_pos (by omega), seti_at (by omega), Option.bind_some, wrap_inc hlt hs]
        have h1 := low1 s[i]
        cases hc : (bif (decide ((s[i].toNat : Int) ≥ (65 : Int))) then (decide ((s[i].toNat : Int) ≤ (90 : Int))) else false) with
        | true =>
          rw [hc, cond_true] at h1
          rw [h1, hnew]; rfl
        | false =>
          rw [hc, cond_false] at h1
          rw [cond_false, hsame h1.symm]
      · right
        have : i = s.length := by omega
        subst this
        unfold text_Lower_b1
        dsimp only
        rw [dlt_self]
        simp [lower]
  rw [key, Option.bind_some, chk_pos (by rw [lower_len]; exact Nat.le_refl _), List.take_of_length_le (by rw [lower_len]; exact Nat.le_refl _)]
theorem Same_eq {s t : Bytes} (hs : s.length ≤ maxLen) (ht : t.length ≤ maxLen) : text_Same s t = some (lower s == lower t) := by
  unfold text_Same
  rw [Lower_eq hs, Option.bind_some, Lower_eq ht]; rfl
theorem cat_ok {s t : Bytes} (h : s.length + t.length ≤ maxLen) : cat s t = some (s ++ t) := by unfold cat; exact chk_pos h
def ctlB (b : UInt8) : Bool := (b < 32 && b != 9) || b == 127
theorem ctl_nat (b : UInt8) : (bif (bif (decide ((b.toNat : Int) < (32 : Int))) then ((b.toNat : Int) != (9 : Int)) else false) then true else ((b.toNat : Int) == (127 : Int))) = ctlB b :=
  byte_eq (p := fun b => bif (bif (decide ((b.toNat : Int) < (32 : Int))) then ((b.toNat : Int) != (9 : Int)) else false) then true else ((b.toNat : Int) == (127 : Int))) (q := ctlB) (by kernel_rfl) b
theorem may1_eq (b : UInt8) : table_may_1 (b.toNat : Int) = some (ctlB b) := congrArg some (ctl_nat b)
theorem Right1_eq (b : UInt8) : start_Right_1 (b.toNat : Int) = some (ctlB b) := congrArg some (ctl_nat b)
def mayB (f : S_Field) : Bool := tokenB f.Name && ((trim f.Value == f.Value) && (decide (f.Value.length ≤ 1000) && !(f.Value.any ctlB)))
structure FSmall (f : S_Field) : Prop where
  name : f.Name.length ≤ maxLen
  value : f.Value.length ≤ maxLen
theorem may_eq {f : S_Field} (h : FSmall f) : table_may f = some (mayB f) := by
  unfold table_may
  rw [Token_eq h.name, Option.bind_some, gcall_val (fun _ => Trim_eq h.value), Option.bind_some]
  rw [gcall_val (fun _ => ContainsFunc_byte ctlB may1_eq h.value), Option.bind_some]
  refine congrArg some ?_
  unfold mayB
  have e : decide ((f.Value.length : Int) ≤ (1000 : Int)) = decide (f.Value.length ≤ 1000) := by simp; omega
  rw [e]
  cases tokenB f.Name <;> cases hd : decide (f.Value.length ≤ 1000) <;> cases ha : f.Value.any ctlB <;> cases ht : (trim f.Value == f.Value) <;> simp [ht]
def rightB (l : List S_Field) : Bool := decide (l.length ≤ 40) && l.all mayB
theorem Right_eq {l : List S_Field} (hl : l.length ≤ maxLen) (h : ∀ f, f ∈ l → FSmall f) : table_Right l = some (rightB l) := by
  unfold table_Right
  have e : decide ((l.length : Int) ≤ (40 : Int)) = decide (l.length ≤ 40) := by simp; omega
  rw [gcall_val (fun _ => ContainsFunc_field (fun f => !mayB f) (fun f hf => by show table_Right_1 f = _; unfold table_Right_1; rw [may_eq (h f hf)]; rfl) hl), Option.bind_some, e]
  refine congrArg some ?_
  unfold rightB
  have : l.all mayB = !(l.any fun f => !mayB f) := by simp [List.any_eq_not_all_not]
  rw [this]
  cases decide (l.length ≤ 40) <;> rfl
def badU (b : UInt8) : Bool := (b ≤ 32 || b > 126) || ([34, 35, 60, 62, 92, 94, 123, 124, 125, 96] : List UInt8).contains b
theorem target1_eq (b : UInt8) : start_target_1 (b.toNat : Int) = some (badU b) := by
  unfold start_target_1
  rw [gcall_val (fun _ => IndexByte_eq _ _), Option.bind_some, u8_nat]
  refine congrArg some ?_
  have h1 := indexByte_has ([34, 35, 60, 62, 92, 94, 123, 124, 125, 96] : Bytes) b
  have h2 := byte_eq (p := fun b => bif (bif (decide ((b.toNat : Int) ≤ (32 : Int))) then true else (decide ((b.toNat : Int) > (126 : Int)))) then true else ([34, 35, 60, 62, 92, 94, 123, 124, 125, 96] : Bytes).contains b) (q := badU) (by kernel_rfl) b
  rw [← h2, ← h1]
  cases (bif (decide ((b.toNat : Int) ≤ (32 : Int))) then true else (decide ((b.toNat : Int) > (126 : Int)))) <;> rfl
def http : Bytes := [104, 116, 116, 112, 58, 47, 47]
def targetB (s : Bytes) : Bool := (s == ([42] : Bytes)) || ((hasPre s [47] || hasPre s http) && (decide (s.length ≤ 500) && !(s.any badU)))
theorem target_eq {s : Bytes} (hs : s.length ≤ maxLen) : start_target s = some (targetB s) := by
  unfold start_target targetB
  have e : decide ((s.length : Int) ≤ (500 : Int)) = decide (s.length ≤ 500) := by simp; omega
  cases h0 : (s == ([42] : Bytes)) with
  | true => rfl
  | false =>
    rw [cond_false, HasPrefix_eq, Option.bind_some, gcall_val (fun _ => HasPrefix_eq s _), Option.bind_some, gcall_val (fun _ => ContainsFunc_byte badU target1_eq hs), Option.bind_some, e]
    refine congrArg some ?_
    show _ = (false || ((hasPre s [47] || hasPre s [104, 116, 116, 112, 58, 47, 47]) && _))
    cases hasPre s [47] <;> cases hasPre s [104, 116, 116, 112, 58, 47, 47] <;> cases decide (s.length ≤ 500) <;> cases s.any badU <;> rfl
def startB (s : S_Start) : Bool :=
  (s.Minor == 0 || s.Minor == 1) &&
  bif s.Code == 0 then (s.Reason == ([] : Bytes)) && (tokenB s.Method && (decide (s.Method.length ≤ 20) && targetB s.Target))
  else (decide (s.Code ≥ 100) && decide (s.Code ≤ 599)) && ((s.Method == ([] : Bytes)) && ((s.Target == ([] : Bytes)) && (decide (s.Reason.length ≤ 100) && ((trim s.Reason == s.Reason) && !(s.Reason.any ctlB)))))
structure SSmall (s : S_Start) : Prop where
  method : s.Method.length ≤ maxLen
  target : s.Target.length ≤ maxLen
  reason : s.Reason.length ≤ maxLen
theorem sRight_eq {s : S_Start} (h : SSmall s) : start_Right s = some (startB s) := by
  unfold start_Right startB
  have e1 : decide ((s.Method.length : Int) ≤ (20 : Int)) = decide (s.Method.length ≤ 20) := by simp; omega
  have e2 : decide ((s.Reason.length : Int) ≤ (100 : Int)) = decide (s.Reason.length ≤ 100) := by simp; omega
  have e0 : (bif (s.Minor != (0 : Int)) then (s.Minor != (1 : Int)) else false) = !(s.Minor == 0 || s.Minor == 1) := by
    show (bif !(s.Minor == 0) then !(s.Minor == 1) else false) = _
    cases s.Minor == 0 <;> cases s.Minor == 1 <;> rfl
  rw [e0]
  cases (s.Minor == 0 || s.Minor == 1) with
  | false => rfl
  | true =>
    simp only [Bool.not_true, cond_false, Bool.true_and]
    cases s.Code == 0 with
    | true =>
      simp only [cond_true]
      rw [gcall_val (fun _ => Token_eq h.method), Option.bind_some, gcall_val (fun _ => target_eq h.target), Option.bind_some, e1]
      refine congrArg some ?_
      cases (s.Reason == ([] : Bytes)) <;> cases tokenB s.Method <;> cases decide (s.Method.length ≤ 20) <;> cases targetB s.Target <;> rfl
    | false =>
      simp only [cond_false]
      rw [gcall_val (fun _ => Trim_eq h.reason), Option.bind_some, gcall_val (fun _ => ContainsFunc_byte ctlB Right1_eq h.reason), Option.bind_some, e2]
      refine congrArg some ?_
      cases decide (s.Code ≥ 100) <;> cases decide (s.Code ≤ 599) <;> cases (s.Method == ([] : Bytes)) <;> cases (s.Target == ([] : Bytes)) <;> cases decide (s.Reason.length ≤ 100) <;> cases s.Reason.any ctlB <;> cases ht : (trim s.Reason == s.Reason) <;> simp [ht]
theorem app_ok {α : Type} {e : Nat} {s t : List α} (h : s.length + t.length ≤ 1000000) (he : e ≤ 1000) : app e s t = some (s ++ t) := by
  unfold app
  refine chk_pos ⟨by unfold maxLen; omega, ?_⟩
  calc (s.length + t.length) * e ≤ 1000000 * 1000 := Nat.mul_le_mul h he
    _ ≤ _ := by decide
theorem mul32 {n : Nat} (h : n ≤ 1000000) : n ≤ maxLen := by unfold maxLen; omega
theorem filter_fold {α : Type} (p : α → Bool) : ∀ (l acc : List α), foldE (ρ := List α) (fun a x => .inl (bif p x then a ++ [x] else a)) (fun a => a) l acc = acc ++ l.filter p
  | [], acc => by simp [foldE]
  | x :: l, acc => by
    show foldE _ _ l (bif p x then acc ++ [x] else acc) = _
    rw [filter_fold p l]
    cases hx : p x <;> simp [hx]
theorem keep_eq {l : List S_Field} {pi : S_Field → Option Bool} (p : S_Field → Bool) (hp : ∀ f, f ∈ l → pi f = some (p f)) (hl : l.length ≤ 1000000) : table_keep_api_Field l pi = some (l.filter p) := by
  unfold table_keep_api_Field
  have key := loop_list (body := table_keep_api_Field_b1 l pi) l (fun i b => (b, (i : Int))) (fun a x => .inl (bif p x then a ++ [x] else a)) (fun a => a) (fun i b => b.length ≤ i) (fun i b x hx hi => ?_) (fun b hi => ?_) [] (Nat.le_refl _)
  · rw [show (([] : List S_Field), (0 : Int)) = (([] : List S_Field), ((0 : Nat) : Int)) from rfl, key, filter_fold]; rfl
  · have hlt := lt_of_get hx
    refine .inl ⟨_, rfl, ?_, ?_⟩
    · unfold table_keep_api_Field_b1
      dsimp only
      rw [dlt_true hlt, cond_true, idx_at hx, Option.bind_some, hp x (List.mem_of_getElem? hx), Option.bind_some, wrap_inc hlt (mul32 hl), app_ok (by simp; omega) (by omega), Option.bind_some]
      cases p x <;> rfl
    · cases p x <;> simp <;> omega
  · unfold table_keep_api_Field_b1
    dsimp only
    rw [dlt_self]; rfl
def isN (n : Bytes) (f : S_Field) : Bool := lower f.Name == lower n
def valsN (l : List S_Field) (n : Bytes) : List Bytes := (l.filter (isN n)).map (·.Value)
theorem map_fold {α β : Type} (g : α → β) : ∀ (l : List α) (acc : List β), foldE (ρ := List β) (fun a x => .inl (a ++ [g x])) (fun a => a) l acc = acc ++ l.map g
  | [], acc => by simp [foldE]
  | x :: l, acc => by
    show foldE _ _ l (acc ++ [g x]) = _
    rw [map_fold g l]; simp
theorem All_eq {l : List S_Field} {n : Bytes} (hl : l.length ≤ 1000000) (h : ∀ f, f ∈ l → FSmall f) (hn : n.length ≤ maxLen) : table_All l n = some (valsN l n) := by
  unfold table_All table_named valsN
  rw [Option.bind_some, keep_eq (isN n) (fun f hf => by
    show table_named_1 f n = _
    unfold table_named_1
    rw [Same_eq (h f hf).name hn]; rfl) hl, Option.bind_some]
  have hk : (l.filter (isN n)).length ≤ 1000000 := Nat.le_trans (List.length_filter_le ..) hl
  generalize l.filter (isN n) = m at hk
  have key := loop_list (body := table_All_b1 m) m (fun i b => (b, (i : Int))) (fun a x => .inl (a ++ [x.Value])) (fun a => a) (fun i b => b.length ≤ i) (fun i b x hx hi => ?_) (fun b hi => ?_) [] (Nat.le_refl _)
  · rw [show (([] : List Bytes), (0 : Int)) = (([] : List Bytes), ((0 : Nat) : Int)) from rfl, key, map_fold]; rfl
  · have hlt := lt_of_get hx
    refine .inl ⟨_, rfl, ?_, by simp; omega⟩
    unfold table_All_b1
    dsimp only
    rw [dlt_true hlt, cond_true, idx_at hx, Option.bind_some, wrap_inc hlt (mul32 hk), app_ok (by simp; omega) (by omega), Option.bind_some]
  · unfold table_All_b1
    dsimp only
    rw [dlt_self]; rfl
def sep : Bytes := [44, 32]
theorem tail_le (M : Nat) : ∀ (r : List Bytes), (∀ s, s ∈ r → s.length ≤ M) → (Lib.joinTail sep r).length ≤ r.length * (M + 2)
  | [], _ => by simp [Lib.joinTail]
  | x :: r, h => by
    have h1 := tail_le M r fun s hs => h s (List.mem_cons_of_mem _ hs)
    have h2 := h x (List.mem_cons_self ..)
    unfold Lib.joinTail at h1 ⊢
    simp only [List.map_cons, List.flatten_cons, List.length_append, List.length_cons, Nat.add_mul]
    have : sep.length = 2 := rfl
    omega
theorem join_le (M : Nat) (l : List Bytes) (h : ∀ s, s ∈ l → s.length ≤ M) : (Lib.join l sep).length ≤ l.length * (M + 2) := by
  cases l with
  | nil => simp [Lib.join]
  | cons x r =>
    rw [Lib.join_cons, List.length_append, List.length_cons, Nat.add_mul]
    have h1 := tail_le M r fun s hs => h s (List.mem_cons_of_mem _ hs)
    have h2 := h x (List.mem_cons_self ..)
    omega
structure LSmall (l : List Bytes) : Prop where
  len : l.length ≤ 100000
  each : ∀ s, s ∈ l → s.length ≤ 100000
theorem LSmall.join {l : List Bytes} (h : LSmall l) : (Lib.join l sep).length ≤ 10000200000 := by
  have h1 := join_le 100000 l h.each
  have h2 : l.length * (100000 + 2) ≤ 100000 * (100000 + 2) := Nat.mul_le_mul_right _ h.len
  omega
theorem LSmall.take {l : List Bytes} (h : LSmall l) (i : Nat) : LSmall (l.take i) := ⟨by have := h.len; simp; omega, fun s hs => h.each s (List.mem_of_mem_take hs)⟩
theorem Join_eq {l : List Bytes} (h : LSmall l) : strings_Join l [44, 32] = some (Lib.join l sep) := by
  unfold strings_Join
  have := h.join
  have := h.len
  exact chk_pos ⟨by omega, by show (Lib.join l sep).length ≤ _; omega⟩
def dv (b : UInt8) : Int := (b.toNat : Int) - 48
def isDig (b : UInt8) : Bool := b ≥ 48 && b ≤ 57
theorem dv_of {b : UInt8} (h : isDig b = true) : 0 ≤ dv b ∧ dv b ≤ 9 := by
  have := byte_all (p := fun b => !isDig b || (decide (0 ≤ dv b) && decide (dv b ≤ 9))) (by kernel_rfl) b
  rw [h] at this
  simpa using this
def over : Bytes → Int → Bool
  | [], _ => false
  | x :: l, n => bif decide (n * 10 + dv x > 1099511627776) then true else over l (n * 10 + dv x)
def valF : Bytes → Int → Int
  | [], n => n
  | x :: l, n => valF l (n * 10 + dv x)
def decR (t : Bytes) (n : Int) (long : Bool) : Int × Int := bif t.all isDig then (bif long || over t n then (0, 2) else (valF t n, 0)) else (0, 10)
def dec (s : Bytes) : Int × Int := bif s == ([] : Bytes) then (0, 10) else decR s 0 false
theorem dig1 (b : UInt8) : decide ((IntKind.u64.wrap (IntKind.u8.wrap ((b.toNat : Int) - (48 : Int)))) ≥ (10 : Int)) = !isDig b := by
  have := byte_all (p := fun b => decide ((IntKind.u64.wrap (IntKind.u8.wrap ((b.toNat : Int) - (48 : Int)))) ≥ (10 : Int)) == !isDig b) (by kernel_rfl) b
  simpa using this
theorem dig2 {b : UInt8} (h : isDig b = true) : IntKind.u64.wrap (IntKind.u8.wrap ((b.toNat : Int) - (48 : Int))) = dv b := by
  have := byte_all (p := fun b => !isDig b || (IntKind.u64.wrap (IntKind.u8.wrap ((b.toNat : Int) - (48 : Int))) == dv b)) (by kernel_rfl) b
  rw [h] at this
  simpa using this
def decStep (c : Int × Bool) (x : UInt8) : (Int × Bool) ⊕ (Int × Int) := bif isDig x then (bif decide (c.1 * 10 + dv x > 1099511627776) then .inl (0, true) else .inl (c.1 * 10 + dv x, c.2)) else .inr (0, 10)
def decFin (c : Int × Bool) : Int × Int := bif c.2 then (0, 2) else (c.1, 0)
theorem ReadDec_eq {s : Bytes} (hs : s.length ≤ maxLen) : number_ReadDec s = some (dec s) := by
  unfold number_ReadDec number_read_uint64 dec
  cases h0 : (s == ([] : Bytes)) with
  | true => rfl
  | false =>
    simp only [cond_false]
    have hf : ∀ (l : Bytes) (n : Int) (long : Bool), foldE decStep decFin l (n, long) = decR l n long := by
      intro l
      induction l with
      | nil => intro n long; unfold decR; cases long <;> rfl
      | cons x l ih =>
        intro n long
        unfold decR
        rw [List.all_cons, foldE_cons, show decStep (n, long) x = (bif isDig x then (bif decide (n * 10 + dv x > 1099511627776) then .inl (0, true) else .inl (n * 10 + dv x, long)) else .inr (0, 10)) from rfl]
        cases hx : isDig x with
        | false => rfl
        | true =>
          simp only [cond_true, Bool.true_and]
          unfold over valF
          cases hm : decide (n * 10 + dv x > 1099511627776) with
          | true =>
            simp only [cond_true]
            rw [ih]; unfold decR
            simp
          | false =>
            simp only [cond_false]
            rw [ih]; rfl
    have key := loop_list (body := number_read_uint64_b1 s 10 (fun x0 => number_ReadDec_1 x0)) s (fun i (c : Int × Bool) => (c.1, c.2, (i : Int))) decStep decFin (fun i c => 0 ≤ c.1 ∧ c.1 ≤ 1099511627776) (fun i c x hx hi => ?_) (fun c hi => ?_) (0, false) ⟨by simp, by simp⟩
    · rw [show ((IntKind.u64.wrap (0 : Int)), false, (0 : Int)) = ((0 : Int), false, ((0 : Nat) : Int)) from rfl, key, hf]; rfl
    · have hlt := lt_of_get hx
      unfold number_read_uint64_b1 number_ReadDec_1
      dsimp only
      rw [dlt_true hlt, cond_true, idx_at hx, Option.bind_some, Option.bind_some, dig1]
      unfold decStep
      cases hd : isDig x with
      | false => exact .inr ⟨_, rfl, rfl⟩
      | true =>
        have hdv := dv_of hd
        rw [dig2 hd, wrap_u64 (show 0 ≤ c.1 * 10 by omega) (by omega), wrap_u64 (show 0 ≤ c.1 * 10 + dv x by omega) (by omega), wrap_inc hlt hs]
        simp only [Bool.not_true, cond_false, cond_true]
        cases hm : decide (c.1 * 10 + dv x > 1099511627776) with
        | true => exact .inl ⟨(0, true), rfl, rfl, by simp, by simp⟩
        | false => exact .inl ⟨_, rfl, rfl, by show 0 ≤ c.1 * 10 + dv x; omega, by show c.1 * 10 + dv x ≤ _; simpa using hm⟩
    · unfold number_read_uint64_b1 decFin
      dsimp only
      rw [dlt_self]
      cases c.2 <;> rfl
theorem valF_bound : ∀ (t : Bytes) (n : Int), 0 ≤ n → n ≤ 1099511627776 → t.all isDig = true → over t n = false → 0 ≤ valF t n ∧ valF t n ≤ 1099511627776
  | [], n, h0, h1, _, _ => ⟨h0, h1⟩
  | x :: t, n, h0, h1, ha, ho => by
    rw [List.all_cons, Bool.and_eq_true] at ha
    have hd := dv_of ha.1
    unfold over at ho
    unfold valF
    cases hm : decide (n * 10 + dv x > 1099511627776) with
    | true => rw [hm] at ho; cases ho
    | false =>
      rw [hm, cond_false] at ho
      exact valF_bound t _ (by omega) (by simpa using hm) ha.2 ho
theorem dec_cases (s : Bytes) : (dec s).2 = 10 ∨ (dec s).2 = 2 ∨ ((dec s).2 = 0 ∧ 0 ≤ (dec s).1 ∧ (dec s).1 ≤ 1099511627776) := by
  unfold dec decR
  cases (s == ([] : Bytes)) with
  | true => exact .inl rfl
  | false =>
    cases ha : s.all isDig with
    | false => exact .inl rfl
    | true =>
      cases ho : over s 0 with
      | true => exact .inr (.inl rfl)
      | false => exact .inr (.inr ⟨rfl, valF_bound s 0 (by simp) (by simp) ha ho⟩)
theorem k22 : ((2 : Int) == 2) = true := rfl
theorem k210 : ((2 : Int) == 10) = false := rfl
theorem k02 : ((0 : Int) == 2) = false := rfl
theorem k010 : ((0 : Int) == 10) = false := rfl
def B (k n : Int) : S_Body := S_Body.mk k n
def sizeOf (s : Bytes) : Int := bif (dec s).2 == 2 then -1 else (dec s).1
def sayStep (c : Option Int) (s : Bytes) : Option Int ⊕ (S_Body × Int) :=
  bif (dec s).2 == 10 then .inr (B 0 0, 32) else match c with
    | none => .inl (some (sizeOf s))
    | some z => bif sizeOf s == z then .inl (some (sizeOf s)) else .inr (B 0 0, 32)
def sayFin (none_ : S_Body) : Option Int → S_Body × Int
  | none => (none_, 0)
  | some z => bif (bif decide (z < 0) then true else decide (z > 20000)) then (B 0 0, 2) else (B 1 z, 0)
def nTE : Bytes := [84, 114, 97, 110, 115, 102, 101, 114, 45, 69, 110, 99, 111, 100, 105, 110, 103]
def nCL : Bytes := [67, 111, 110, 116, 101, 110, 116, 45, 76, 101, 110, 103, 116, 104]
def nTE' : Bytes := [116, 114, 97, 110, 115, 102, 101, 114, 45, 101, 110, 99, 111, 100, 105, 110, 103]
def nCL' : Bytes := [99, 111, 110, 116, 101, 110, 116, 45, 108, 101, 110, 103, 116, 104]
def chunked : Bytes := [99, 104, 117, 110, 107, 101, 100]
def sayB (minor : Int) (l : List S_Field) (none_ : S_Body) : S_Body × Int :=
  bif decide ((valsN l nTE).length > 0) then
    bif decide ((valsN l nCL).length > 0) || (minor == 0 || !(lower (Lib.join (valsN l nTE) sep) == chunked)) then (B 0 0, 32) else (B 2 0, 0)
  else foldE sayStep (sayFin none_) (valsN l nCL) none
structure FRow (l : List S_Field) : Prop where
  len : l.length ≤ 100000
  each : ∀ f, f ∈ l → f.Name.length ≤ 100000 ∧ f.Value.length ≤ 100000
theorem FRow.small {l : List S_Field} (h : FRow l) : ∀ f, f ∈ l → FSmall f := fun f hf => ⟨by have := (h.each f hf).1; unfold maxLen; omega, by have := (h.each f hf).2; unfold maxLen; omega⟩
theorem FRow.vals {l : List S_Field} (h : FRow l) (n : Bytes) : LSmall (valsN l n) := by
  refine ⟨?_, fun s hs => ?_⟩
  · unfold valsN
    rw [List.length_map]
    have := List.length_filter_le (isN n) l
    have := h.len
    omega
  · unfold valsN at hs
    obtain ⟨f, hf, rfl⟩ := List.mem_map.1 hs
    exact (h.each f (List.mem_filter.1 hf).1).2
theorem big {n : Nat} (h : n ≤ 20000000000) : n ≤ maxLen := by unfold maxLen; omega
theorem gtz {α : Type} (l : List α) : decide (((l.length : Nat) : Int) > (0 : Int)) = decide (l.length > 0) := by simp <;> omega
theorem say_eq {minor : Int} {l : List S_Field} {none_ : S_Body} (h : FRow l) : frame_say minor l none_ = some (sayB minor l none_) := by
  unfold frame_say sayB
  have hl : l.length ≤ 1000000 := by have := h.len; omega
  have hte := h.vals nTE
  have hcl := h.vals nCL
  show Option.bind (table_All l nCL) _ = _
  rw [All_eq (n := nCL) hl h.small (big (by decide)), Option.bind_some]
  have hJ : table_Joined l nTE = some (Lib.join (valsN l nTE) sep, decide ((valsN l nTE).length > 0)) := by
    unfold table_Joined
    rw [All_eq hl h.small (big (by decide)), Option.bind_some, Join_eq hte, Option.bind_some, gtz]
  show Option.bind (table_Joined l nTE) _ = _
  rw [hJ, Option.bind_some]
  dsimp only
  cases decide ((valsN l nTE).length > 0) with
  | true =>
    simp only [cond_true]
    rw [gcall_val (fun _ => Same_eq (big (by have := hte.join; omega)) (big (by decide))), Option.bind_some, gtz]
    show _ = some (bif _ || (_ || !(lower (Lib.join (valsN l nTE) sep) == lower [99, 104, 117, 110, 107, 101, 100])) then _ else _)
    cases decide ((valsN l nCL).length > 0) <;> cases (minor == 0) <;> cases (lower (Lib.join (valsN l nTE) sep) == lower [99, 104, 117, 110, 107, 101, 100]) <;> rfl
  | false =>
    simp only [cond_false]
    generalize valsN l nCL = cl at *
    let lf : Option Int → Bool := fun c => match c with | none => false | some z => bif decide (z < 0) then true else decide (z > 20000)
    let ob : Option Int → S_Body := fun c => match c with | none => none_ | some z => S_Body.mk 1 z
    refine loop_list cl (fun i c => (lf c, (i : Int), ob c)) sayStep (sayFin none_) (fun i c => (i = 0 ∧ c = none) ∨ (0 < i ∧ ∃ z, c = some z)) (fun i c x hx hi => ?_) (fun c hi => ?_) none (.inl ⟨rfl, rfl⟩)
    · have hlt := lt_of_get hx
      have hxl := hcl.each x (List.mem_of_getElem? hx)
      have hb : frame_say_b1 cl (lf c, (i : Int), ob c) = some (bif (dec x).2 == 10 then .inr (B 0 0, 32) else bif (bif decide ((i : Int) > 0) then !((1 == (ob c).Kind) && ((sizeOf x == (ob c).Size) && true)) else false) then .inr (B 0 0, 32) else .inl (lf (some (sizeOf x)), ((i + 1 : Nat) : Int), ob (some (sizeOf x)))) := by
        unfold frame_say_b1
        dsimp only
        rw [dlt_true hlt, cond_true, idx_at hx, Option.bind_some, ReadDec_eq (big (by omega)), Option.bind_some, wrap_inc hlt (big (by have := hcl.len; omega))]
        unfold sizeOf
        rcases dec_cases x with hc | hc | ⟨hc, hc1, hc2⟩
        · rw [hc]; rfl
        · rw [hc]
          simp only [k22, k210, cond_true, cond_false]
          cases (bif decide ((i : Int) > 0) then (!((1 == (ob c).Kind) && (((-1 : Int) == (ob c).Size) && true))) else false) <;> rfl
        · rw [hc, wrap_i64 (by omega) (by omega)]
          simp only [k02, k010, cond_true, cond_false]
          cases (bif decide ((i : Int) > 0) then (!((1 == (ob c).Kind) && (((dec x).1 == (ob c).Size) && true))) else false) <;> rfl
      rw [hb]
      unfold sayStep
      cases (dec x).2 == 10 with
      | true => exact .inr ⟨_, rfl, rfl⟩
      | false =>
        rcases hi with ⟨rfl, rfl⟩ | ⟨hi, z, rfl⟩
        · exact .inl ⟨_, rfl, rfl, .inr ⟨by omega, _, rfl⟩⟩
        · rw [show decide ((i : Int) > 0) = true by simp; omega]
          dsimp only
          show (∃ b', (bif false then _ else bif sizeOf x == z then _ else _) = _ ∧ some (bif false then _ else bif (bif true then !((1 == (1 : Int)) && ((sizeOf x == z) && true)) else false) then _ else _) = _ ∧ _) ∨ _
          cases sizeOf x == z with
          | true => exact .inl ⟨_, rfl, rfl, .inr ⟨by omega, _, rfl⟩⟩
          | false => exact .inr ⟨_, rfl, rfl⟩
    · unfold frame_say_b1
      dsimp only
      rw [dlt_self, cond_false]
      cases c with
      | none => rfl
      | some z =>
        show (bif (bif decide (z < 0) then true else decide (z > 20000)) then _ else _) = some (Sum.inr (bif (bif decide (z < 0) then true else decide (z > 20000)) then _ else _))
        cases (bif decide (z < 0) then true else decide (z > 20000)) <;> rfl
def reqB (s : S_Start) (l : List S_Field) : S_Body × Int := bif (!startB s) || (s.Code != 0 || !rightB l) then (B 0 0, 1) else sayB s.Minor l (B 0 0)
def ansB (s : S_Start) (l : List S_Field) (m : Bytes) : S_Body × Int :=
  bif (!startB s) || (s.Code == 0 || !rightB l) then (B 0 0, 1) else
  bif (decide (s.Code < 200) || (s.Code == 204 || (s.Code == 304 || m == ([72, 69, 65, 68] : Bytes)))) then (B 0 0, 0) else sayB s.Minor l (B 3 0)
theorem Request_eq {s : S_Start} {l : List S_Field} (hs : SSmall s) (h : FRow l) : frame_Request s l = some (reqB s l) := by
  unfold frame_Request reqB
  rw [sRight_eq hs, Option.bind_some, gcall_val (fun _ => Right_eq (big (by have := h.len; omega)) h.small), Option.bind_some, say_eq h, Option.bind_some]
  cases startB s <;> cases (s.Code != 0) <;> cases rightB l <;> rfl
theorem Answer_eq {s : S_Start} {l : List S_Field} {m : Bytes} (hs : SSmall s) (h : FRow l) : frame_Answer s l m = some (ansB s l m) := by
  unfold frame_Answer ansB
  rw [sRight_eq hs, Option.bind_some, gcall_val (fun _ => Right_eq (big (by have := h.len; omega)) h.small), Option.bind_some, say_eq h, Option.bind_some]
  cases startB s <;> cases (s.Code == 0) <;> cases rightB l <;> cases decide (s.Code < 200) <;> cases (s.Code == 204) <;> cases (s.Code == 304) <;> cases (m == ([72, 69, 65, 68] : Bytes)) <;> rfl
theorem slc_cut {α : Type} (l : List α) (k : Nat) {K : Int} (hK : K = (k : Int)) : slc l 0 (imin (l.length : Int) K) = some (l.take k) := by
  subst hK
  unfold slc imin
  by_cases h : (k : Int) < (l.length : Int)
  · rw [if_pos h, chk_pos (by omega)]; simp
  · rw [if_neg h, chk_pos (by omega)]
    simp only [Int.toNat_zero, List.drop_zero, Int.toNat_natCast, Nat.sub_zero]
    rw [List.take_length, List.take_of_length_le (by omega)]
def cutS (s : S_Start) : S_Start := S_Start.mk (s.Method.take 40) (s.Target.take 520) s.Code (s.Reason.take 120) s.Minor
def cutF (f : S_Field) : S_Field := S_Field.mk (f.Name.take 60) (f.Value.take 1010)
def cutL (l : List S_Field) : List S_Field := (l.take 45).map cutF
theorem cutL_row (l : List S_Field) : FRow (cutL l) := by
  refine ⟨by unfold cutL; simp; omega, fun f hf => ?_⟩
  unfold cutL at hf
  obtain ⟨g, _, rfl⟩ := List.mem_map.1 hf
  unfold cutF
  simp; omega
def addB (l : List S_Field) (f : S_Field) : List S_Field × Int := bif (!rightB l) || !mayB f then ([], 1) else bif l.length == 40 then ([], 4) else (l ++ [f], 0)
def rest (l : List S_Field) : List S_Field := (l.filter fun f => !isN nCL' f).filter fun f => !isN nTE' f
theorem rest_snoc (l : List S_Field) (f : S_Field) : rest (l ++ [f]) = rest l ++ (bif isN nCL' f || isN nTE' f then [] else [f]) := by
  unfold rest
  rw [List.filter_append, List.filter_append]
  cases h1 : isN nCL' f <;> cases h2 : isN nTE' f <;> simp [h1, h2]
theorem rest_le (l : List S_Field) : (rest l).length ≤ l.length := by
  unfold rest
  exact Nat.le_trans (List.length_filter_le ..) (List.length_filter_le ..)
theorem vals_snoc (l : List S_Field) (f : S_Field) (n : Bytes) (h : isN n f = false) : valsN (l ++ [f]) n = valsN l n := by
  unfold valsN
  rw [List.filter_append]
  simp [h]
theorem FRow.filter {l : List S_Field} (h : FRow l) (p : S_Field → Bool) : FRow (l.filter p) := ⟨by have := List.length_filter_le p l; have := h.len; omega, fun f hf => h.each f (List.mem_filter.1 hf).1⟩
theorem addB_row {l : List S_Field} {f : S_Field} (h : FRow l) (h1 : l.length ≤ 50000) (hf : f.Name.length ≤ 100000 ∧ f.Value.length ≤ 100000) : FRow (addB l f).1 := by
  unfold addB
  cases ((!rightB l) || !mayB f) with
  | true => exact ⟨by simp, by simp⟩
  | false =>
    cases (l.length == 40) with
    | true => exact ⟨by simp, by simp⟩
    | false =>
      refine ⟨by simp; omega, fun g hg => ?_⟩
      rcases List.mem_append.1 hg with hg | hg
      · exact h.each g hg
      · rw [List.mem_singleton] at hg; subst hg; exact hf
theorem isN_low {n m : Bytes} (h : lower n = lower m) : isN n = isN m := by funext f; unfold isN; rw [h]
theorem Add_eq {l : List S_Field} {n v : Bytes} (h : FRow l) (hf : FSmall (S_Field.mk n v)) : table_Add l n v = some (addB l (S_Field.mk n v)) := by
  unfold table_Add addB
  have hl := h.len
  rw [Right_eq (big (by omega)) h.small, Option.bind_some, gcall_val (fun _ => may_eq hf), Option.bind_some]
  have e : decide ((l.length : Int) ≥ (40 : Int)) = decide (l.length ≥ 40) := by simp; omega
  have hc : slices_Clip__api_Field_api_Field l = some l := by
    unfold slices_Clip__api_Field_api_Field slc
    rw [chk_pos (by omega)]
    simp
  rw [e, hc, Option.bind_some, app_ok (by simp; omega) (by omega), Option.bind_some]
  unfold rightB
  cases hr : (decide (l.length ≤ 40) && l.all mayB) <;> cases mayB (S_Field.mk n v)
  · rfl
  · rfl
  · rfl
  · have : l.length ≤ 40 := by simp at hr; exact hr.1
    have e2 : decide (l.length ≥ 40) = (l.length == 40) := by rw [Bool.eq_iff_iff, beq_iff_eq, decide_eq_true_eq]; omega
    rw [e2]
    cases (l.length == 40) <;> rfl
theorem Like_refl {l : List S_Field} (hl : l.length ≤ maxLen) : intarsiaref04_Like l l = some true := by
  unfold intarsiaref04_Like
  have hf : ∀ m : List S_Field, foldE (β := Unit) (ρ := Bool) (fun _ _ => .inl ()) (fun _ => true) m () = true := by
    intro m
    induction m with
    | nil => rfl
    | cons x m ih => exact ih
  have key := loop_list (body := intarsiaref04_Like_b1 l l) l (fun i (_ : Unit) => (i : Int)) (fun _ _ => .inl ()) (fun _ => true) (fun _ _ => True) (fun i b x hx hi => ?_) (fun b hi => ?_) () trivial
  · rw [show ((l.length : Int) != (l.length : Int)) = false by simp, cond_false]
    exact key.trans (by rw [hf])
  · have hlt := lt_of_get hx
    refine .inl ⟨(), rfl, ?_, trivial⟩
    unfold intarsiaref04_Like_b1
    rw [dlt_true hlt, cond_true, idx_at hx, Option.bind_some, Option.bind_some, wrap_inc hlt hl]
    simp
  · unfold intarsiaref04_Like_b1
    rw [dlt_self]; rfl
def fld (b : S_Body) : S_Field := bif b.Kind == 1 then S_Field.mk nCL (Lib.decDigits b.Size.toNat) else S_Field.mk nTE chunked
def withB (l : List S_Field) (b : S_Body) : List S_Field × Int :=
  bif (!rightB l) || (decide (b.Size < 0) || (decide (b.Size > 20000) || (decide (b.Kind < 0) || decide (b.Kind > 3)))) then ([], 1) else
  bif b.Kind == 1 || b.Kind == 2 then addB (rest l) (fld b) else (rest l, 0)
theorem digits_le {n : Nat} (h : n ≤ 20000) : (Lib.decDigits n).length ≤ 5 := by
  rw [Lib.decDigits_length]
  have : ∀ (k u : Nat), u < 10 ^ (k + 1) → Lib.nDigits u ≤ k + 1 := by
    intro k
    induction k with
    | zero => intro u h; rw [Lib.nDigits_small (by omega)]; omega
    | succ k ih =>
      intro u h
      by_cases h10 : u < 10
      · rw [Lib.nDigits_small h10]; omega
      · rw [Lib.nDigits_big h10]
        have := ih (u / 10) (by
          have : u < 10 ^ (k + 1) * 10 := by rw [← Nat.pow_succ]; exact h
          omega)
        omega
  exact this 4 n (by simp; omega)
theorem rest_row {l : List S_Field} (h : FRow l) : FRow (rest l) := (h.filter _).filter _
theorem fld_small (b : S_Body) (h : b.Size ≤ 20000) : FSmall (fld b) := by
  have h1 := digits_le (n := b.Size.toNat) (by omega)
  unfold fld
  cases (b.Kind == 1) with
  | true => exact ⟨big (Nat.le_of_ble_eq_true rfl), big (by show (Lib.decDigits _).length ≤ _; omega)⟩
  | false => exact ⟨big (Nat.le_of_ble_eq_true rfl), big (Nat.le_of_ble_eq_true rfl)⟩
theorem digit_dig (k : Nat) (h : k < 10) : isDig (UInt8.ofNat (48 + k)) = true ∧ dv (UInt8.ofNat (48 + k)) = k := by
  have : k = 0 ∨ k = 1 ∨ k = 2 ∨ k = 3 ∨ k = 4 ∨ k = 5 ∨ k = 6 ∨ k = 7 ∨ k = 8 ∨ k = 9 := by omega
  rcases this with rfl | rfl | rfl | rfl | rfl | rfl | rfl | rfl | rfl | rfl <;> exact ⟨rfl, rfl⟩
theorem digits_ind {P : Nat → Prop} (h0 : ∀ n, n < 10 → P n) (h1 : ∀ n, ¬ n < 10 → P (n / 10) → P n) (n : Nat) : P n := by
  induction n using Nat.strongRecOn with
  | ind n ih =>
    by_cases h : n < 10
    · exact h0 n h
    · exact h1 n h (ih (n / 10) (by omega))
theorem digits_lo {n : Nat} (h : n < 10) : Lib.decDigits n = [UInt8.ofNat (48 + n)] := Lib.decDigits_one h
theorem digits_hi {n : Nat} (h : ¬ n < 10) : Lib.decDigits n = Lib.decDigits (n / 10) ++ [UInt8.ofNat (48 + n % 10)] := by rw [Lib.decDigits, dif_neg h]
theorem digits_all (n : Nat) : (Lib.decDigits n).all isDig = true := by
  refine digits_ind (P := fun n => (Lib.decDigits n).all isDig = true) (fun n h => ?_) (fun n h ih => ?_) n
  · rw [digits_lo h, List.all_cons, (digit_dig n h).1]; rfl
  · rw [digits_hi h, List.all_append, ih, List.all_cons, (digit_dig (n % 10) (by omega)).1]; rfl
theorem digits_ne (n : Nat) : (Lib.decDigits n == ([] : Bytes)) = false := by
  by_cases h : n < 10
  · rw [digits_lo h]; rfl
  · rw [digits_hi h]
    cases Lib.decDigits (n / 10) <;> rfl
theorem valF_append : ∀ (s t : Bytes) (z : Int), valF (s ++ t) z = valF t (valF s z)
  | [], _, _ => rfl
  | x :: s, t, z => valF_append s t _
theorem digits_val (n : Nat) : valF (Lib.decDigits n) 0 = n := by
  refine digits_ind (P := fun n => valF (Lib.decDigits n) 0 = n) (fun n h => ?_) (fun n h ih => ?_) n
  · rw [digits_lo h]
    show (0 : Int) * 10 + dv _ = _
    rw [(digit_dig n h).2]; omega
  · rw [digits_hi h, valF_append, ih]
    show ((n / 10 : Nat) : Int) * 10 + dv _ = _
    rw [(digit_dig (n % 10) (by omega)).2]; omega
theorem over_append : ∀ (s t : Bytes) (z : Int), over s z = false → over (s ++ t) z = over t (valF s z)
  | [], _, _, _ => rfl
  | x :: s, t, z, h => by
    unfold over at h
    cases hd : decide (z * 10 + dv x > 1099511627776) with
    | true => rw [hd] at h; cases h
    | false =>
      rw [hd] at h
      show (bif decide (z * 10 + dv x > 1099511627776) then true else over (s ++ t) (z * 10 + dv x)) = _
      rw [hd]
      exact over_append s t _ h
theorem digits_over (n : Nat) (h : n ≤ 1099511627776) : over (Lib.decDigits n) 0 = false := by
  revert h
  refine digits_ind (P := fun n => n ≤ 1099511627776 → over (Lib.decDigits n) 0 = false) (fun n h _ => ?_) (fun n h ih hn => ?_) n
  · rw [digits_lo h]
    show (bif decide ((0 : Int) * 10 + dv _ > 1099511627776) then true else false) = false
    rw [(digit_dig n h).2, show decide ((0 : Int) * 10 + (n : Int) > 1099511627776) = false by simp; omega]; rfl
  · rw [digits_hi h, over_append _ _ _ (ih (by omega)), digits_val]
    show (bif decide (((n / 10 : Nat) : Int) * 10 + dv _ > 1099511627776) then true else false) = false
    rw [(digit_dig (n % 10) (by omega)).2, show decide (((n / 10 : Nat) : Int) * 10 + ((n % 10 : Nat) : Int) > 1099511627776) = false by simp; omega]; rfl
theorem dec_digits {n : Nat} (h : n ≤ 1099511627776) : dec (Lib.decDigits n) = ((n : Int), 0) := by
  unfold dec decR
  rw [digits_ne, digits_all, digits_over n h, digits_val]
  rfl
theorem dropWhile_none {p : UInt8 → Bool} : ∀ {s : Bytes}, s.any p = false → s.dropWhile p = s
  | [], _ => rfl
  | x :: s, h => by
    rw [List.any_cons, Bool.or_eq_false_iff] at h
    rw [List.dropWhile_cons_of_neg (by rw [h.1]; exact Bool.false_ne_true)]
theorem trim_none {s : Bytes} (h : s.any blank = false) : trim s = s := by
  have h2 : s.reverse.any blank = false := by rw [List.any_reverse]; exact h
  unfold trim dropL dropR
  rw [dropWhile_none h2, List.reverse_reverse, dropWhile_none h]
theorem any_none {p q : UInt8 → Bool} (hpq : ∀ b, p b = true → q b = false) : ∀ {s : Bytes}, s.all p = true → s.any q = false
  | [], _ => rfl
  | x :: s, h => by
    rw [List.all_cons, Bool.and_eq_true] at h
    rw [List.any_cons, hpq x h.1, any_none hpq h.2]; rfl
theorem dig_plain (b : UInt8) (h : isDig b = true) : blank b = false ∧ ctlB b = false := by
  have := byte_all (p := fun b => !isDig b || (!blank b && !ctlB b)) (by kernel_rfl) b
  rw [h] at this
  simpa using this
theorem fld_may {b : S_Body} (h1 : b.Size ≤ 20000) : mayB (fld b) = true := by
  unfold fld
  cases (b.Kind == 1) with
  | false => exact (show mayB (S_Field.mk nTE chunked) = true by kernel_rfl)
  | true =>
    have ha := digits_all b.Size.toNat
    have hl := digits_le (n := b.Size.toNat) (by omega)
    unfold mayB
    show (tokenB nCL && ((trim (Lib.decDigits b.Size.toNat) == Lib.decDigits b.Size.toNat) && (decide ((Lib.decDigits b.Size.toNat).length ≤ 1000) && !((Lib.decDigits b.Size.toNat).any ctlB)))) = true
    rw [trim_none (any_none (fun b h => (dig_plain b h).1) ha), any_none (fun b h => (dig_plain b h).2) ha, show tokenB nCL = true by kernel_rfl]
    simp; omega
theorem rest_mem {l : List S_Field} {f : S_Field} (h : f ∈ rest l) : f ∈ l := by
  unfold rest at h
  rw [List.mem_filter, List.mem_filter] at h
  exact h.1.1
theorem rest_rest (l : List S_Field) : rest (rest l) = rest l := by
  unfold rest
  simp only [List.filter_filter]
  refine congrArg (List.filter · l) (funext fun f => ?_)
  cases isN nCL' f <;> cases isN nTE' f <;> rfl
theorem rest_vals (l : List S_Field) : valsN (rest l) nTE = [] ∧ valsN (rest l) nCL = [] := by
  have h1 : isN nTE = isN nTE' := isN_low (show lower nTE = lower nTE' by kernel_rfl)
  have h2 : isN nCL = isN nCL' := isN_low (show lower nCL = lower nCL' by kernel_rfl)
  unfold valsN rest
  rw [h1, h2]
  refine ⟨?_, ?_⟩
  · rw [List.map_eq_nil_iff, List.filter_filter, List.filter_eq_nil_iff]
    intro f _
    cases isN nTE' f <;> simp
  · rw [List.map_eq_nil_iff, List.filter_filter, List.filter_filter, List.filter_eq_nil_iff]
    intro f _
    cases isN nCL' f <;> simp
theorem rightB_rest {l : List S_Field} (h : rightB l = true) : rightB (rest l) = true := by
  unfold rightB at h ⊢
  rw [Bool.and_eq_true] at h ⊢
  have := rest_le l
  have h1 : l.length ≤ 40 := by simpa using h.1
  refine ⟨by simp; omega, ?_⟩
  rw [List.all_eq_true] at h ⊢
  intro f hf
  unfold rest at hf
  rw [List.mem_filter, List.mem_filter] at hf
  exact h.2 f hf.1.1
structure Made (l : List S_Field) (b : S_Body) (x : List S_Field) : Prop where
  right : rightB x = true
  rest : rest x = rest l
  size0 : 0 ≤ b.Size
  size1 : b.Size ≤ 20000
  kind0 : 0 ≤ b.Kind
  kind3 : b.Kind ≤ 3
  te : valsN x nTE = bif b.Kind == 2 then [chunked] else []
  cl : valsN x nCL = bif b.Kind == 1 then [Lib.decDigits b.Size.toNat] else []
  len : x.length ≤ 41
  mem : ∀ f, f ∈ x → f ∈ l ∨ f = fld b
theorem vals_snoc_hit (l : List S_Field) (f : S_Field) (n : Bytes) (h : isN n f = true) : valsN (l ++ [f]) n = valsN l n ++ [f.Value] := by
  unfold valsN
  rw [List.filter_append]
  simp [h]
theorem fld_names (b : S_Body) : (isN nCL (fld b) = (b.Kind == 1)) ∧ (isN nTE (fld b) = !(b.Kind == 1)) ∧ ((isN nCL' (fld b) || isN nTE' (fld b)) = true) := by
  unfold fld
  cases (b.Kind == 1) with
  | true => exact ⟨(show isN nCL (S_Field.mk nCL []) = true by kernel_rfl), (show isN nTE (S_Field.mk nCL []) = false by kernel_rfl), (show (isN nCL' (S_Field.mk nCL []) || isN nTE' (S_Field.mk nCL [])) = true by kernel_rfl)⟩
  | false => exact ⟨(show isN nCL (S_Field.mk nTE []) = false by kernel_rfl), (show isN nTE (S_Field.mk nTE []) = true by kernel_rfl), (show (isN nCL' (S_Field.mk nTE []) || isN nTE' (S_Field.mk nTE [])) = true by kernel_rfl)⟩
theorem withB_cases (l : List S_Field) (b : S_Body) : ((withB l b).1 = [] ∧ ((withB l b).2 != 0) = true) ∨ ((withB l b).2 = 0 ∧ Made l b (withB l b).1) := by
  unfold withB
  cases hr : rightB l with
  | false => exact .inl ⟨rfl, rfl⟩
  | true =>
    cases h1 : decide (b.Size < 0) with
    | true => exact .inl ⟨rfl, rfl⟩
    | false =>
      cases h2 : decide (b.Size > 20000) with
      | true => exact .inl ⟨rfl, rfl⟩
      | false =>
        cases h3 : decide (b.Kind < 0) with
        | true => exact .inl ⟨rfl, rfl⟩
        | false =>
          cases h4 : decide (b.Kind > 3) with
          | true => exact .inl ⟨rfl, rfl⟩
          | false =>
            have s0 : 0 ≤ b.Size := by simpa using h1
            have s1 : b.Size ≤ 20000 := by simpa using h2
            have k0 : 0 ≤ b.Kind := by simpa using h3
            have k3 : b.Kind ≤ 3 := by simpa using h4
            have hrr := rightB_rest hr
            obtain ⟨v1, v2⟩ := rest_vals l
            have hlen : (rest l).length ≤ 40 := by unfold rightB at hrr; simp at hrr; exact hrr.1
            simp only [Bool.not_true, Bool.or_self, cond_false]
            cases hk : (b.Kind == 1 || b.Kind == 2) with
            | false =>
              rw [Bool.or_eq_false_iff] at hk
              exact .inr ⟨rfl, hrr, rest_rest l, s0, s1, k0, k3, by rw [hk.2]; exact v1, by rw [hk.1]; exact v2, by show (rest l).length ≤ 41; omega, fun f hf => .inl (rest_mem hf)⟩
            | true =>
              unfold addB
              rw [hrr, fld_may s1]
              simp only [Bool.not_true, Bool.or_self, cond_false, cond_true]
              cases h40 : ((rest l).length == 40) with
              | true => exact .inl ⟨rfl, rfl⟩
              | false =>
                have hne : ¬ (rest l).length = 40 := by simpa using h40
                obtain ⟨f1, f2, f3⟩ := fld_names b
                refine .inr ⟨rfl, ?_, ?_, s0, s1, k0, k3, ?_, ?_, by simp; omega, fun f hf => ?_⟩
                · unfold rightB at hrr ⊢
                  rw [Bool.and_eq_true] at hrr
                  rw [cond_false, List.all_append, hrr.2, List.length_append]
                  simp [fld_may s1]; omega
                · rw [cond_false, rest_snoc, f3, rest_rest]; simp
                · rw [cond_false]
                  cases hk1 : (b.Kind == 1) with
                  | true =>
                    have : b.Kind = 1 := by simpa using hk1
                    rw [vals_snoc _ _ _ (by rw [f2, hk1]; rfl), v1, this]; rfl
                  | false =>
                    rw [hk1, Bool.false_or] at hk
                    rw [vals_snoc_hit _ _ _ (by rw [f2, hk1]; rfl), v1, hk]
                    unfold fld
                    rw [hk1]; rfl
                · rw [cond_false]
                  cases hk1 : (b.Kind == 1) with
                  | true =>
                    rw [vals_snoc_hit _ _ _ (by rw [f1, hk1]), v2]
                    unfold fld
                    rw [hk1]; rfl
                  | false => rw [vals_snoc _ _ _ (by rw [f1, hk1]), v2]; rfl
                · rw [cond_false] at hf
                  rcases List.mem_append.1 hf with hf | hf
                  · exact .inl (rest_mem hf)
                  · rw [List.mem_singleton] at hf; exact .inr hf
theorem made_say {l x : List S_Field} {b : S_Body} (h : Made l b x) (minor : Int) (none_ : S_Body) (hm : (b.Kind == 2 && minor == 0) = false) :
    sayB minor x none_ = (bif b.Kind == 1 then B 1 b.Size else bif b.Kind == 2 then B 2 0 else none_, 0) := by
  unfold sayB
  rw [h.te, h.cl]
  cases h1 : (b.Kind == 1) with
  | true =>
    have e : b.Kind = 1 := by simpa using h1
    have s0 := h.size0
    have s1 := h.size1
    rw [e]
    show foldE sayStep (sayFin none_) [Lib.decDigits b.Size.toNat] none = (B 1 b.Size, 0)
    rw [foldE_cons]
    unfold sayStep sizeOf
    rw [dec_digits (n := b.Size.toNat) (by omega)]
    show sayFin none_ (some ((b.Size.toNat : Nat) : Int)) = _
    rw [show ((b.Size.toNat : Nat) : Int) = b.Size by omega]
    show ((bif bif decide (b.Size < 0) then true else decide (b.Size > 20000) then (B 0 0, 2) else (B 1 b.Size, 0)) : S_Body × Int) = _
    rw [show decide (b.Size < 0) = false by simp; omega, show decide (b.Size > 20000) = false by simp; omega]
    rfl
  | false =>
    cases h2 : (b.Kind == 2) with
    | true =>
      rw [h2, Bool.true_and] at hm
      show (bif decide (([] : List Bytes).length > 0) || (minor == 0 || !(lower (Lib.join [chunked] sep) == chunked)) then (B 0 0, 32) else (B 2 0, 0)) = _
      rw [hm, show (lower (Lib.join [chunked] sep) == chunked) = true by kernel_rfl]
      rfl
    | false => rfl
theorem Made.row {l x : List S_Field} {b : S_Body} (h : Made l b x) (hl : FRow l) : FRow x := by
  refine ⟨by have := h.len; omega, fun f hf => ?_⟩
  rcases h.mem f hf with hf | rfl
  · exact hl.each f hf
  · have s1 := h.size1
    have h1 := digits_le (n := b.Size.toNat) (by omega)
    unfold fld
    cases (b.Kind == 1) with
    | true => exact ⟨Nat.le_of_ble_eq_true rfl, by show (Lib.decDigits _).length ≤ _; omega⟩
    | false => exact ⟨Nat.le_of_ble_eq_true rfl, Nat.le_of_ble_eq_true rfl⟩
def noSp (s : Bytes) : Bool := !(s.contains 32)
theorem noSp_cons {x : UInt8} {s : Bytes} (h : noSp (x :: s) = true) : (x = 32 → False) ∧ noSp s = true := by
  unfold noSp at h ⊢
  rw [List.contains_cons] at h
  simp at h ⊢
  exact ⟨fun e => h.1 e.symm, h.2⟩
theorem index_no : ∀ {s : Bytes}, noSp s = true → Lib.index s [32] = -1
  | [], _ => by simp [Lib.index]
  | x :: s, h => by
    obtain ⟨h1, h2⟩ := noSp_cons h
    have hp : ([32] : Bytes).isPrefixOf (x :: s) = false := by simp [List.isPrefixOf]; exact fun e => h1 e.symm
    rw [Lib.index, hp, index_no h2]; rfl
theorem index_at : ∀ {a : Bytes} (t : Bytes), noSp a = true → Lib.index (a ++ 32 :: t) [32] = (a.length : Int)
  | [], t, _ => by rw [List.nil_append, Lib.index]; simp [List.isPrefixOf]
  | x :: a, t, h => by
    obtain ⟨h1, h2⟩ := noSp_cons h
    have hp : ([32] : Bytes).isPrefixOf (x :: (a ++ 32 :: t)) = false := by simp [List.isPrefixOf]; exact fun e => h1 e.symm
    rw [List.cons_append, Lib.index, hp, index_at t h2]
    have : ((a.length : Int) == -1) = false := by simp
    simp [this]
theorem splitK_no {k : Nat} {s : Bytes} (h : noSp s = true) : Lib.splitK [32] 0 k s = [s] := by
  cases k with
  | zero => rfl
  | succ k => unfold Lib.splitK; rw [index_no h]; rfl
theorem splitK_at {k : Nat} {a t : Bytes} (h : noSp a = true) : Lib.splitK [32] 0 (k + 1) (a ++ 32 :: t) = a :: Lib.splitK [32] 0 k t := by
  conv => lhs; unfold Lib.splitK
  rw [index_at t h]
  have : ((a.length : Int) == -1) = false := by simp
  rw [this]
  simp
theorem count_at {a : Bytes} (t : Bytes) (h : noSp a = true) : Lib.count (a ++ 32 :: t) [32] = Lib.count t [32] + 1 := by
  rw [Lib.count_hit (by simp) (index_at t h)]
  simp [Nat.add_comm]
theorem split_no {s : Bytes} (h : noSp s = true) : Lib.split s [32] = [s] := splitK_no h
theorem split_at {a : Bytes} (t : Bytes) (h : noSp a = true) : Lib.split (a ++ 32 :: t) [32] = a :: Lib.split t [32] := by
  unfold Lib.split
  rw [count_at t h, splitK_at h]
def zeroS : S_Start := S_Start.mk [] [] 0 [] 0
def ver (n : Nat) : Bytes := [72, 84, 84, 80, 47, 49, 46] ++ Lib.decDigits n
def minorB (v : Bytes) : Int := bif v == ver 0 then 0 else bif v == ver 1 then 1 else 2
theorem minor_eq (v : Bytes) : start_minor v = some (minorB v) := by
  unfold start_minor minorB
  rw [show ver 0 = [72, 84, 84, 80, 47, 49, 46, 48] by unfold ver; rw [digits_lo (by omega)]; rfl, show ver 1 = [72, 84, 84, 80, 47, 49, 46, 49] by unfold ver; rw [digits_lo (by omega)]; rfl]
  cases (v == ([72, 84, 84, 80, 47, 49, 46, 48] : Bytes)) <;> cases (v == ([72, 84, 84, 80, 47, 49, 46, 49] : Bytes)) <;> rfl
def okS (s : S_Start) : S_Start × Int := bif startB s then (s, 0) else (zeroS, 30)
def parseW : List Bytes → S_Start × Int
  | [a, b, v] => okS (S_Start.mk a b 0 [] (minorB v))
  | _ => (zeroS, 30)
def parseB (l : Bytes) : S_Start × Int := parseW (Lib.split l [32])
def statusOf (v c r : Bytes) : S_Start × Int :=
  bif c.length == 3 && ((dec c).2 == 0 && !((dec c).1 == 0)) then okS (S_Start.mk [] [] (dec c).1 r (minorB v)) else (zeroS, 30)
def statusW : List Bytes → S_Start × Int
  | [v, c] => statusOf v c []
  | [v, c, r] => statusOf v c r
  | _ => (zeroS, 30)
def statusB (l : Bytes) : S_Start × Int := statusW (Lib.splitN l [32] 3)
theorem split_small {s : Bytes} : ∀ x, x ∈ Lib.split s [32] → x.length ≤ s.length := by
  have key : ∀ (k : Nat) (s x : Bytes), x ∈ Lib.splitK [32] 0 k s → x.length ≤ s.length := by
    intro k
    induction k with
    | zero => intro s x h; simp [Lib.splitK] at h; subst h; exact Nat.le_refl _
    | succ k ih =>
      intro s x h
      unfold Lib.splitK at h
      split at h
      · simp at h; subst h; exact Nat.le_refl _
      · rcases List.mem_cons.1 h with rfl | h
        · rw [List.length_take]; omega
        · have := ih _ x h
          rw [List.length_drop] at this
          omega
  exact key _ s
theorem splitN_small {s : Bytes} {n : Nat} : ∀ x, x ∈ Lib.splitN s [32] n → x.length ≤ s.length := by
  have key : ∀ (k : Nat) (s x : Bytes), x ∈ Lib.splitK [32] 0 k s → x.length ≤ s.length := by
    intro k
    induction k with
    | zero => intro s x h; simp [Lib.splitK] at h; subst h; exact Nat.le_refl _
    | succ k ih =>
      intro s x h
      unfold Lib.splitK at h
      split at h
      · simp at h; subst h; exact Nat.le_refl _
      · rcases List.mem_cons.1 h with rfl | h
        · rw [List.length_take]; omega
        · have := ih _ x h
          rw [List.length_drop] at this
          omega
  exact key _ s
theorem sm {n : Nat} (h : n ≤ 1000000) : n ≤ maxLen := by unfold maxLen; omega
theorem idx0 {α : Type} (a : α) (l : List α) : idx (a :: l) (0 : Int) = some a := idx_at (i := 0) rfl
theorem idx1 {α : Type} (a b : α) (l : List α) : idx (a :: b :: l) (1 : Int) = some b := idx_at (i := 1) rfl
theorem idx2 {α : Type} (a b c : α) (l : List α) : idx (a :: b :: c :: l) (2 : Int) = some c := idx_at (i := 2) rfl
theorem Parse_eq {l : Bytes} (hl : l.length ≤ 1000000) : start_Parse l = some (parseB l) := by
  unfold start_Parse strings_Split parseB
  rw [chk_pos ⟨Nat.le_refl _, by omega⟩, Option.bind_some]
  have hs := split_small (s := l)
  generalize Lib.split l [32] = w at hs
  match w, hs with
  | [], _ => rfl
  | [_], _ => rfl
  | [_, _], _ => rfl
  | [a, b, v], hs =>
    have h1 := hs a (by simp)
    have h2 := hs b (by simp)
    rw [idx0, idx1, idx2]
    simp only [Option.bind_some]
    rw [minor_eq, Option.bind_some, sRight_eq ⟨sm (by show a.length ≤ _; omega), sm (by show b.length ≤ _; omega), sm (Nat.zero_le _)⟩, Option.bind_some]
    show (bif (((([a, b, v] : List Bytes).length : Nat) : Int) != 3) then _ else _) = some (okS _)
    rw [show (((([a, b, v] : List Bytes).length : Nat) : Int) != 3) = false from rfl, cond_false]
    unfold okS
    cases startB (S_Start.mk a b 0 [] (minorB v)) <;> rfl
  | a :: b :: c :: d :: r, _ =>
    have : (((a :: b :: c :: d :: r).length : Int) != 3) = true := by simp; omega
    rw [this]; rfl
theorem dec_fits (s : Bytes) : 0 ≤ (dec s).1 ∧ (dec s).1 ≤ 1099511627776 := by
  have : (dec s).1 = 0 ∨ (0 ≤ (dec s).1 ∧ (dec s).1 ≤ 1099511627776) := by
    rcases dec_cases s with h | h | h
    · unfold dec decR at h ⊢
      revert h
      cases (s == ([] : Bytes)) with
      | true => intro _; exact .inl rfl
      | false =>
        cases s.all isDig with
        | false => intro _; exact .inl rfl
        | true =>
          cases over s 0 with
          | true => intro _; exact .inl rfl
          | false => intro h; exact absurd (show (0 : Int) = 10 from h) (by omega)
    · unfold dec decR at h ⊢
      revert h
      cases (s == ([] : Bytes)) with
      | true => intro _; exact .inl rfl
      | false =>
        cases s.all isDig with
        | false => intro _; exact .inl rfl
        | true =>
          cases over s 0 with
          | true => intro _; exact .inl rfl
          | false => intro h; exact absurd (show (0 : Int) = 2 from h) (by omega)
    · exact .inr h.2
  omega
theorem splitN3 {s : Bytes} (h : 2 ≤ s.length) : Lib.splitN s [32] 3 = Lib.splitK [32] 0 2 s := by
  unfold Lib.splitN
  rw [show min 3 (s.length + 1) - 1 = 2 by omega]
theorem splitK_le : ∀ (k : Nat) (s : Bytes), (Lib.splitK [32] 0 k s).length ≤ k + 1
  | 0, s => by simp [Lib.splitK]
  | k + 1, s => by
    unfold Lib.splitK
    split
    · simp
    · rw [List.length_cons]; have := splitK_le k (s.drop ((Lib.index s [32]).toNat + ([32] : Bytes).length)); omega
theorem splitN_le (s : Bytes) : (Lib.splitN s [32] 3).length ≤ 3 := by
  unfold Lib.splitN
  have := splitK_le (min 3 (s.length + 1) - 1) s
  omega
theorem Status_eq {l : Bytes} (hl : l.length ≤ 1000000) : start_Status l = some (statusB l) := by
  unfold start_Status strings_SplitN statusB
  rw [chk_pos ⟨by omega, by omega, Nat.le_refl _, by omega⟩, Option.bind_some]
  have hs := splitN_small (s := l) (n := 3)
  have h3 := splitN_le l
  rw [show (3 : Int).toNat = 3 from rfl]
  generalize Lib.splitN l [32] 3 = w at hs h3
  match w, hs, h3 with
  | [], _, _ => rfl
  | [_], _, _ => rfl
  | [v, c], hs, _ =>
    have h2 := hs c (by simp)
    have hd := dec_fits c
    rw [show gidx (!(decide (((([v, c] : List Bytes).length : Nat) : Int) < 2))) [v, c] 1 = some c from idx1 v c [], idx1, idx0]
    simp only [Option.bind_some]
    rw [ReadDec_eq (sm (by omega)), Option.bind_some, minor_eq, Option.bind_some, wrap_i64 (by omega) (by omega)]
    rw [gcall_val (fun _ => sRight_eq ⟨sm (Nat.zero_le _), sm (Nat.zero_le _), sm (Nat.zero_le _)⟩), Option.bind_some]
    show _ = some (statusOf v c [])
    unfold statusOf okS
    rw [show decide (((([v, c] : List Bytes).length : Nat) : Int) < 2) = false from rfl, show (((([v, c] : List Bytes).length : Nat) : Int) == 3) = false from rfl]
    have e : ((c.length : Int) != 3) = !(c.length == 3) := by rw [Bool.eq_iff_iff]; simp; omega
    rw [e]
    have e2 : ((dec c).2 != 0) = !((dec c).2 == 0) := rfl
    rw [e2]
    cases (c.length == 3) <;> cases ((dec c).2 == 0) <;> cases ((dec c).1 == 0) <;> cases startB (S_Start.mk [] [] (dec c).1 [] (minorB v)) <;> rfl
  | [v, c, r], hs, _ =>
    have h2 := hs c (by simp)
    have h3 := hs r (by simp)
    have hd := dec_fits c
    rw [show gidx (!(decide (((([v, c, r] : List Bytes).length : Nat) : Int) < 2))) [v, c, r] 1 = some c from idx1 v c [r], idx1, idx0, idx2]
    simp only [Option.bind_some]
    rw [ReadDec_eq (sm (by omega)), Option.bind_some, minor_eq, Option.bind_some, wrap_i64 (by omega) (by omega)]
    rw [gcall_val (fun _ => sRight_eq (s := S_Start.mk [] [] (dec c).1 r (minorB v)) ⟨sm (Nat.zero_le _), sm (Nat.zero_le _), sm (by show r.length ≤ _; omega)⟩), Option.bind_some]
    show _ = some (statusOf v c r)
    unfold statusOf okS
    rw [show decide (((([v, c, r] : List Bytes).length : Nat) : Int) < 2) = false from rfl, show (((([v, c, r] : List Bytes).length : Nat) : Int) == 3) = true from rfl]
    have e : ((c.length : Int) != 3) = !(c.length == 3) := by rw [Bool.eq_iff_iff]; simp; omega
    rw [e]
    have e2 : ((dec c).2 != 0) = !((dec c).2 == 0) := rfl
    rw [e2]
    cases (c.length == 3) <;> cases ((dec c).2 == 0) <;> cases ((dec c).1 == 0) <;> cases startB (S_Start.mk [] [] (dec c).1 r (minorB v)) <;> rfl
  | a :: b :: c :: d :: r, _, h3 => simp at h3
def printB (s : S_Start) : Bytes :=
  bif s.Code == 0 then s.Method ++ 32 :: (s.Target ++ 32 :: ver s.Minor.toNat) else ver s.Minor.toNat ++ 32 :: (Lib.decDigits s.Code.toNat ++ 32 :: s.Reason)
theorem join3 (a b c : Bytes) : Lib.join [a, b, c] [32] = a ++ 32 :: (b ++ 32 :: c) := by simp [Lib.join, List.intercalate]
structure SSm (s : S_Start) : Prop where
  method : s.Method.length ≤ 1000000
  target : s.Target.length ≤ 1000000
  reason : s.Reason.length ≤ 1000000
theorem SSm.small {s : S_Start} (h : SSm s) : SSmall s := ⟨sm h.method, sm h.target, sm h.reason⟩
theorem startB_minor {s : S_Start} (h : startB s = true) : s.Minor = 0 ∨ s.Minor = 1 := by
  unfold startB at h
  rw [Bool.and_eq_true, Bool.or_eq_true] at h
  rcases h.1 with h | h
  · exact .inl (eq_of_beq h)
  · exact .inr (eq_of_beq h)
theorem startB_code {s : S_Start} (h : startB s = true) : s.Code = 0 ∨ (100 ≤ s.Code ∧ s.Code ≤ 599) := by
  unfold startB at h
  rw [Bool.and_eq_true] at h
  have h2 := h.2
  cases hc : (s.Code == 0) with
  | true => exact .inl (eq_of_beq hc)
  | false =>
    rw [hc, cond_false, Bool.and_eq_true, Bool.and_eq_true] at h2
    exact .inr ⟨of_decide_eq_true h2.1.1, of_decide_eq_true h2.1.2⟩
theorem ver_cases {m : Int} (h : m = 0 ∨ m = 1) : ver m.toNat = [72, 84, 84, 80, 47, 49, 46, 48] ∨ ver m.toNat = [72, 84, 84, 80, 47, 49, 46, 49] := by
  unfold ver
  rcases h with rfl | rfl
  · left; rw [show (0 : Int).toNat = 0 from rfl, digits_lo (by omega)]; rfl
  · right; rw [show (1 : Int).toNat = 1 from rfl, digits_lo (by omega)]; rfl
theorem ver_len {m : Int} (h : m = 0 ∨ m = 1) : (ver m.toNat).length = 8 := by rcases ver_cases h with e | e <;> rw [e] <;> rfl
theorem ver_back {m : Int} (h : m = 0 ∨ m = 1) : minorB (ver m.toNat) = m := by
  unfold minorB
  have e0 : ver 0 = [72, 84, 84, 80, 47, 49, 46, 48] := by unfold ver; rw [digits_lo (by omega)]; rfl
  have e1 : ver 1 = [72, 84, 84, 80, 47, 49, 46, 49] := by unfold ver; rw [digits_lo (by omega)]; rfl
  rcases h with rfl | rfl
  · rw [show (0 : Int).toNat = 0 from rfl, e0, e1]; rfl
  · rw [show (1 : Int).toNat = 1 from rfl, e0, e1]; rfl
theorem digits_len {n : Nat} (h : n < 1000) : (Lib.decDigits n).length ≤ 3 := by
  by_cases h1 : n < 10
  · rw [digits_lo h1]; simp
  rw [digits_hi h1]
  by_cases h2 : n / 10 < 10
  · rw [digits_lo h2]; simp
  rw [digits_hi h2, digits_lo (by omega)]; simp
theorem digits_len3 {n : Nat} (h0 : 100 ≤ n) (h : n < 1000) : (Lib.decDigits n).length = 3 := by
  rw [digits_hi (by omega), digits_hi (by omega), digits_lo (by omega)]; rfl
theorem noSp_of {p : UInt8 → Bool} {s : Bytes} (hp : p 32 = false) (h : s.all p = true) : noSp s = true := by
  unfold noSp
  cases hc : s.contains 32 with
  | false => rfl
  | true =>
    have := List.contains_iff_mem.1 hc
    rw [List.all_eq_true] at h
    rw [h _ this] at hp; cases hp
theorem token_noSp {s : Bytes} (h : tokenB s = true) : noSp s = true := by
  unfold tokenB at h
  rw [Bool.and_eq_true] at h
  exact noSp_of (p := wordB) rfl h.2
theorem target_noSp {s : Bytes} (h : targetB s = true) : noSp s = true := by
  unfold targetB at h
  rw [Bool.or_eq_true, Bool.and_eq_true, Bool.and_eq_true] at h
  rcases h with h | h
  · rw [eq_of_beq h]; rfl
  · refine noSp_of (p := fun b => !badU b) (by decide) ?_
    have := h.2.2
    rw [← List.not_any_eq_all_not]; exact this
theorem ver_noSp {m : Int} (h : m = 0 ∨ m = 1) : noSp (ver m.toNat) = true := by rcases ver_cases h with e | e <;> rw [e] <;> rfl
theorem ver_noTok {m : Int} (h : m = 0 ∨ m = 1) : tokenB (ver m.toNat) = false := by rcases ver_cases h with e | e <;> rw [e] <;> rfl
theorem digits_noSp (n : Nat) : noSp (Lib.decDigits n) = true := noSp_of (p := isDig) rfl (digits_all n)
theorem tok_noMinor {s : Bytes} (h : tokenB s = true) : minorB s = 2 := by
  unfold minorB
  have e0 : ver 0 = [72, 84, 84, 80, 47, 49, 46, 48] := by unfold ver; rw [digits_lo (by omega)]; rfl
  have e1 : ver 1 = [72, 84, 84, 80, 47, 49, 46, 49] := by unfold ver; rw [digits_lo (by omega)]; rfl
  rw [e0, e1]
  cases h0 : (s == ([72, 84, 84, 80, 47, 49, 46, 48] : Bytes)) with
  | true => rw [eq_of_beq h0] at h; exact absurd h (by decide)
  | false =>
    cases h1 : (s == ([72, 84, 84, 80, 47, 49, 46, 49] : Bytes)) with
    | true => rw [eq_of_beq h1] at h; exact absurd h (by decide)
    | false => rfl
theorem okS_minor2 {s : S_Start} (h : s.Minor = 2) : okS s = (zeroS, 30) := by
  unfold okS startB
  rw [h]; rfl
theorem statusOf_bad {v c r : Bytes} (h : minorB v = 2) : statusOf v c r = (zeroS, 30) := by
  unfold statusOf
  rw [h]
  cases (c.length == 3 && ((dec c).2 == 0 && !((dec c).1 == 0))) with
  | true => exact okS_minor2 (s := S_Start.mk [] [] (dec c).1 r 2) rfl
  | false => rfl
theorem splitN_two {a b t : Bytes} (ha : noSp a = true) (hb : noSp b = true) : Lib.splitN (a ++ 32 :: (b ++ 32 :: t)) [32] 3 = [a, b, t] := by
  rw [splitN3 (by simp; omega), splitK_at ha, splitK_at hb]; rfl
theorem print0 {s : S_Start} (h : startB s = true) (h0 : s.Code = 0) : parseB (printB s) = (s, 0) ∧ statusB (printB s) = (zeroS, 30) := by
  have hm := startB_minor h
  have h' := h
  unfold startB at h'
  rw [Bool.and_eq_true, h0, show ((0 : Int) == 0) = true from rfl, cond_true, Bool.and_eq_true, Bool.and_eq_true, Bool.and_eq_true] at h'
  have hr := eq_of_beq h'.2.1
  have ht := token_noSp h'.2.2.1
  have hg := target_noSp h'.2.2.2.2
  have hp : printB s = s.Method ++ 32 :: (s.Target ++ 32 :: ver s.Minor.toNat) := by unfold printB; rw [h0]; rfl
  rw [hp]
  unfold parseB statusB
  rw [split_at _ ht, split_at _ hg, split_no (ver_noSp hm), splitN_two ht hg]
  constructor
  · show okS (S_Start.mk s.Method s.Target 0 [] (minorB (ver s.Minor.toNat))) = _
    rw [ver_back hm]
    have : S_Start.mk s.Method s.Target 0 [] s.Minor = s := by rw [← hr, ← h0]
    rw [this]; unfold okS; rw [h]; rfl
  · exact statusOf_bad (tok_noMinor h'.2.2.1)
theorem parseW_bad {v : Bytes} {l : List Bytes} (h : tokenB v = false) : parseW (v :: l) = (zeroS, 30) := by
  match l with
  | [] => rfl
  | [_] => rfl
  | [b, c] =>
    show okS (S_Start.mk v b 0 [] (minorB c)) = _
    unfold okS startB
    rw [h]
    simp only [Bool.false_and, Bool.and_false, cond_false]
    show (bif _ && (bif (0 : Int) == 0 then false else _) then _ else _) = _
    rw [show ((0 : Int) == 0) = true from rfl, cond_true, Bool.and_false]; rfl
  | _ :: _ :: _ :: _ => rfl
theorem print1 {s : S_Start} (h : startB s = true) (h0 : s.Code ≠ 0) : parseB (printB s) = (zeroS, 30) ∧ statusB (printB s) = (s, 0) := by
  have hm := startB_minor h
  have hc : 100 ≤ s.Code ∧ s.Code ≤ 599 := by rcases startB_code h with h | h; · exact absurd h h0
                                              · exact h
  have hb : (s.Code == 0) = false := by simpa using h0
  have h' := h
  unfold startB at h'
  rw [Bool.and_eq_true, hb, cond_false, Bool.and_eq_true, Bool.and_eq_true, Bool.and_eq_true, Bool.and_eq_true] at h'
  have hmt := eq_of_beq h'.2.2.1
  have htg := eq_of_beq h'.2.2.2.1
  have hp : printB s = ver s.Minor.toNat ++ 32 :: (Lib.decDigits s.Code.toNat ++ 32 :: s.Reason) := by unfold printB; rw [hb]; rfl
  rw [hp]
  unfold parseB statusB
  rw [split_at _ (ver_noSp hm), splitN_two (ver_noSp hm) (digits_noSp _)]
  refine ⟨parseW_bad (ver_noTok hm), ?_⟩
  show statusOf _ _ _ = _
  unfold statusOf
  rw [dec_digits (by omega), digits_len3 (by omega) (by omega), ver_back hm]
  have e : ((s.Code.toNat : Nat) : Int) = s.Code := by omega
  simp only [e, hb]
  have : S_Start.mk [] [] s.Code s.Reason s.Minor = s := by cases s; simp only at hmt htg; subst hmt htg; rfl
  rw [this]; unfold okS; rw [h]; rfl
theorem okS_cases (s : S_Start) : (startB s = true ∧ okS s = (s, 0)) ∨ okS s = (zeroS, 30) := by
  unfold okS
  cases h : startB s with
  | true => exact .inl ⟨rfl, rfl⟩
  | false => exact .inr rfl
theorem parse_cases (l : Bytes) : (∃ s, parseB l = (s, 0) ∧ startB s = true ∧ s.Code = 0 ∧ s.Method.length ≤ l.length ∧ s.Target.length ≤ l.length ∧ s.Reason = []) ∨ parseB l = (zeroS, 30) := by
  unfold parseB
  have hs := split_small (s := l)
  generalize Lib.split l [32] = w at hs
  match w, hs with
  | [], _ => exact .inr rfl
  | [_], _ => exact .inr rfl
  | [_, _], _ => exact .inr rfl
  | [a, b, v], hs =>
    rcases okS_cases (S_Start.mk a b 0 [] (minorB v)) with ⟨h1, h2⟩ | h
    · exact .inl ⟨_, h2, h1, rfl, hs a (by simp), hs b (by simp), rfl⟩
    · exact .inr h
  | _ :: _ :: _ :: _ :: _, _ => exact .inr rfl
theorem statusOf_cases (v c r : Bytes) : (∃ s, statusOf v c r = (s, 0) ∧ startB s = true ∧ s.Code ≠ 0 ∧ s.Method = [] ∧ s.Target = [] ∧ s.Reason = r) ∨ statusOf v c r = (zeroS, 30) := by
  unfold statusOf
  cases hb : (c.length == 3 && ((dec c).2 == 0 && !((dec c).1 == 0))) with
  | false => exact .inr rfl
  | true =>
    rw [Bool.and_eq_true, Bool.and_eq_true] at hb
    have hne : (dec c).1 ≠ 0 := by have := hb.2.2; simpa using this
    rcases okS_cases (S_Start.mk [] [] (dec c).1 r (minorB v)) with ⟨h1, h2⟩ | h
    · exact .inl ⟨_, h2, h1, hne, rfl, rfl, rfl⟩
    · exact .inr h
theorem status_cases (l : Bytes) : (∃ s, statusB l = (s, 0) ∧ startB s = true ∧ s.Code ≠ 0 ∧ s.Method = [] ∧ s.Target = [] ∧ s.Reason.length ≤ l.length) ∨ statusB l = (zeroS, 30) := by
  unfold statusB
  have hs := splitN_small (s := l) (n := 3)
  generalize Lib.splitN l [32] 3 = w at hs
  match w, hs with
  | [], _ => exact .inr rfl
  | [_], _ => exact .inr rfl
  | [v, c], _ =>
    rcases statusOf_cases v c [] with ⟨s, h1, h2, h3, h4, h5, h6⟩ | h
    · exact .inl ⟨s, h1, h2, h3, h4, h5, by rw [h6]; exact Nat.zero_le _⟩
    · exact .inr h
  | [v, c, r], hs =>
    rcases statusOf_cases v c r with ⟨s, h1, h2, h3, h4, h5, h6⟩ | h
    · exact .inl ⟨s, h1, h2, h3, h4, h5, by rw [h6]; exact hs r (by simp)⟩
    · exact .inr h
  | _ :: _ :: _ :: _ :: _, _ => exact .inr rfl
theorem printB_len {s : S_Start} (hs : SSm s) (h : startB s = true) : (printB s).length ≤ s.Method.length + s.Target.length + s.Reason.length + 20 := by
  have hm := startB_minor h
  have hc := startB_code h
  have hv := ver_len hm
  have := digits_len (n := s.Code.toNat) (by omega)
  unfold printB
  cases (s.Code == 0) <;> simp <;> omega
end Go.Proofs.YtpionnihpibglaaGreatDoor
