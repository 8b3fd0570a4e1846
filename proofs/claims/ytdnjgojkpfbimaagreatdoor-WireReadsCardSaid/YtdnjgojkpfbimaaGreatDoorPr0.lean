/-
  Plain laws: what is used of other plain texts.
-/
import Derived.Test.YtdnjgojkpfbimaaGreatDoorIw1
import Derived.KernelRfl
import Derived.Lib.SplitLaws
open _root_.Option renaming bind_some -> aD5
open _root_.Nat renaming le_refl -> aD6
open _root_.Nat renaming zero_le -> aD7
open _root_.Bool renaming and_eq_true -> aD8
open _root_.List renaming take_of_length_le -> aD9
open _root_.Int renaming toNat_natCast -> aEa
open _root_.List renaming contains_cons -> aEb
open _root_.Bool renaming eq_iff_iff -> aEc
open _root_.List renaming getElem?_eq_getElem -> aEd
open _root_.List renaming all_cons -> aEe
open _root_.List renaming mem_of_getElem? -> aEf
open _root_.List renaming length_append -> aEg
open _root_.Int renaming le_refl -> aEh
open _root_.List renaming length_cons -> aEi
open _root_.List renaming isPrefixOf -> aEj
open _root_.List renaming mem_cons_of_mem -> aEk
open _root_.List renaming take_succ_eq_append_getElem -> aEl
open _root_.List renaming mem_cons_self -> aEm
open _root_.List renaming append_nil -> aEn
namespace Go.Proofs.YtdnjgojkpfbimaaGreatDoor
open Go Go.Pm
set_option linter.unusedSimpArgs false
set_option linter.unusedVariables false
theorem fX {σ ρ : Type} {body : σ -> Option (σ ⊕ ρ)} (V : σ -> ρ) (μ : σ -> Nat) (Inv : σ -> Prop)
  (h : ∀ x, Inv x -> (∃ y, body x = some (.inl y) /\ Inv y /\ μ y < μ x /\ V x = V y) ∨ body x = some (.inr (V x))) : ∀ x, Inv x -> loopO body x = some (V x) := by
 have key : ∀ n x, μ x <= n -> Inv x -> loopO body x = some (V x) := by
  intro n
  induction n with
  | zero =>
   intro x hx hi
   rw [aT]
   rcases h x hi with ⟨y, h1, h2, h3, h4⟩ | h1
   ·omega
   ·rw [h1]
  | succ n ih =>
   intro x hx hi
   rw [aT]
   rcases h x hi with ⟨y, h1, h2, h3, h4⟩ | h1
   ·rw [h1, h4]; exact ih y (by omega) h2
   ·rw [h1]
 exact fun x => key (μ x) x (aD6 _)
def aY {α β ρ : Type} (step : β -> α -> β ⊕ ρ) (fin : β -> ρ) : List α -> β -> ρ
 | [], b => fin b
 | x :: l, b => match step b x with
  | .inl b' => aY step fin l b'
  | .inr r => r
theorem bY {α β ρ : Type} (step : β -> α -> β ⊕ ρ) (fin : β -> ρ) (x : α) (l : List α) (b : β) : aY step fin (x :: l) b = match step b x with
  | .inl b' => aY step fin l b'
  | .inr r => r := by rw [aY]
theorem aW {α β ρ σ : Type} {body : σ -> Option (σ ⊕ ρ)} (l : List α) (mk : Nat -> β -> σ) (step : β -> α -> β ⊕ ρ) (fin : β -> ρ) (Inv : Nat -> β -> Prop)
  (hs : ∀ (i : Nat) (b : β) (x : α), l[i]? = some x -> Inv i b -> (∃ b', step b x = .inl b' /\ body (mk i b) = some (.inl (mk (i + 1) b')) /\ Inv (i + 1) b') ∨ (∃ r, step b x = .inr r /\ body (mk i b) = some (.inr r)))
  (hf : ∀ b, Inv l.length b -> body (mk l.length b) = some (.inr (fin b))) : ∀ b0, Inv 0 b0 -> loopO body (mk 0 b0) = some (aY step fin l b0) := by
 have key : ∀ (m i : Nat) (b : β), m + i = l.length -> Inv i b -> loopO body (mk i b) = some (aY step fin (l.drop i) b) := by
  intro m
  induction m with
  | zero =>
   intro i b hm hi
   have : i = l.length := by omega
   subst this
   rw [aT, hf b hi, List.drop_length]; rfl
  | succ m ih =>
   intro i b hm hi
   have hlt : i < l.length := by omega
   rw [List.drop_eq_getElem_cons hlt]
   rcases hs i b l[i] (aEd hlt) hi with ⟨b', h1, h2, h3⟩ | ⟨r, h1, h2⟩
   ·rw [aT, h2]
    show loopO body (mk (i + 1) b') = _
    rw [ih (i + 1) b' (by omega) h3]
    unfold aY
    rw [h1]
    cases hd : l.drop (i + 1) <;> rfl
   ·rw [aT, h2]
    unfold aY
    rw [h1]
 intro b0 h0
 have := key l.length 0 b0 (by omega) h0
 rwa [List.drop_zero] at this
theorem aC {n : Int} (h : -9223372036854775808 <= n) (h' : n <= 9223372036854775807) : IntKind.i64.wrap n = n := sU h h'
theorem aL {i n : Nat} (h : i < n) (hn : n <= maxLen) : IntKind.i64.wrap ((i : Int) + (1 : Int)) = ((i + 1 : Nat) : Int) := aA7 h hn
theorem cN {n : Int} (h : 0 <= n) (h' : n <= 18446744073709551615) : IntKind.u64.wrap n = n := IntWalk.u64_in n (by omega)
theorem aV {α : Type} {l : List α} {i : Nat} {x : α} (h : l[i]? = some x) : idx l (i : Int) = some x := by
 unfold idx
 rw [show decide ((0 : Int) <= (i : Int)) = true by simp]
 exact h
theorem aM {i n : Nat} (h : i < n) : decide ((i : Int) < (n : Int)) = true := by simp; omega
theorem aO (n : Nat) : decide ((n : Int) < (n : Int)) = false := by simp
theorem aP {α : Type} {l : List α} {i : Nat} {x : α} (h : l[i]? = some x) : i < l.length := (List.getElem?_eq_some_iff.1 h).1
theorem cO {p : UInt8 -> Bool} (h : ((List.range 256).all fun n => p (UInt8.ofNat n)) = true) (b : UInt8) : p b = true := by
 have := List.all_eq_true.1 h b.toNat (List.mem_range.2 b.toNat_lt)
 simpa using this
theorem jE {p q : UInt8 -> Bool} (h : ((List.range 256).all fun n => p (UInt8.ofNat n) == q (UInt8.ofNat n)) = true) (b : UInt8) : p b = q b := by
 have := cO (p := fun b => p b == q b) h b
 simpa using this
theorem p3 (b : UInt8) : u8 (b.toNat : Int) = b := by unfold u8; simp
def idxP {α : Type} (p : α -> Bool) : List α -> Nat -> Int
 | [], _ => -1
 | x :: l, i => bif p x then (i : Int) else idxP p l (i + 1)
theorem kG {α : Type} (p : α -> Bool) : ∀ (s : List α) (i : Nat), decide (idxP p s i ≥ (0 : Int)) = s.any p
 | [], _ => rfl
 | x :: l, i => by
  unfold idxP
  cases hx : p x with
  | true => simp [hx]
  | false => simp only [aDd, List.any_cons, hx, Bool.false_or]; exact kG p l (i + 1)
theorem iE {α : Type} (p : α -> Bool) : ∀ (l : List α) (i : Nat), aY (β := Nat) (fun j x => bif p x then .inr (j : Int) else .inl (j + 1)) (fun _ => (-1 : Int)) l i = idxP p l i
 | [], _ => rfl
 | x :: l, i => by
  unfold aY idxP
  cases p x with
  | true => rfl
  | false => exact iE p l (i + 1)
theorem mO {l : Bytes} {pi : Int -> Option Bool} (p : UInt8 -> Bool) (hp : ∀ b, pi (b.toNat : Int) = some (p b)) (hl : l.length <= maxLen) : slices_IndexFunc__byte_byte l pi = some (idxP p l 0) := by
 unfold slices_IndexFunc__byte_byte
 rw [<- iE]
 refine aW l (fun i _ => (i : Int)) _ _ (fun i b => b = i) (fun i b x hx hi => ?_) (fun b hi => ?_) 0 rfl
 ·subst hi
  have hlt := aP hx
  unfold slices_IndexFunc__byte_byte_b1
  rw [aM hlt, aDc, aV hx, aD5, hp, aD5]
  cases p x with
  | true => exact .inr ⟨_, rfl, rfl⟩
  | false => exact .inl ⟨_, rfl, by rw [aL hlt hl]; rfl, rfl⟩
 ·unfold slices_IndexFunc__byte_byte_b1
  rw [aO]; rfl
theorem cZ {l : Bytes} {pi : Int -> Option Bool} (p : UInt8 -> Bool) (hp : ∀ b, pi (b.toNat : Int) = some (p b)) (hl : l.length <= maxLen) : slices_ContainsFunc__byte_byte l pi = some (l.any p) := by
 unfold slices_ContainsFunc__byte_byte
 rw [mO p hp hl, aD5, kG]
theorem lT {l : List S_Field} {pi : S_Field -> Option Bool} (p : S_Field -> Bool) (hp : ∀ b, b ∈ l -> pi b = some (p b)) (hl : l.length <= maxLen) : slices_IndexFunc__api_Field_api_Field l pi = some (idxP p l 0) := by
 unfold slices_IndexFunc__api_Field_api_Field
 rw [<- iE]
 refine aW l (fun i _ => (i : Int)) _ _ (fun i b => b = i) (fun i b x hx hi => ?_) (fun b hi => ?_) 0 rfl
 ·subst hi
  have hlt := aP hx
  unfold slices_IndexFunc__api_Field_api_Field_b1
  rw [aM hlt, aDc, aV hx, aD5, hp x (aEf hx), aD5]
  cases p x with
  | true => exact .inr ⟨_, rfl, rfl⟩
  | false => exact .inl ⟨_, rfl, by rw [aL hlt hl]; rfl, rfl⟩
 ·unfold slices_IndexFunc__api_Field_api_Field_b1
  rw [aO]; rfl
theorem iF {l : List S_Field} {pi : S_Field -> Option Bool} (p : S_Field -> Bool) (hp : ∀ b, b ∈ l -> pi b = some (p b)) (hl : l.length <= maxLen) : slices_ContainsFunc__api_Field_api_Field l pi = some (l.any p) := by
 unfold slices_ContainsFunc__api_Field_api_Field
 rw [lT p hp hl, aD5, kG]
theorem cD (s : Bytes) (c : Int) : strings_IndexByte s c = some (Lib.indexByte s (u8 c)) := rfl
theorem cP (s : Bytes) (c : UInt8) : decide (Lib.indexByte s c ≥ (0 : Int)) = s.contains c := by
 induction s with
 | nil => rfl
 | cons b l ih =>
  have h1 := Lib.indexByte_ge l c
  unfold Lib.indexByte
  by_cases hb : b = c
  ·subst hb; simp
  ·have hb' : (b == c) = false := by simpa using hb
   rw [hb', aEb]
   have hc : (c == b) = false := by simpa using fun h => hb h.symm
   rw [hc, Bool.false_or, <- ih]
   by_cases h2 : Lib.indexByte l c = -1
   ·simp [h2]
   ·have h3 : (Lib.indexByte l c == -1) = false := by simpa using h2
    simp only [Bool.false_eq_true, if_false, h3]
    rw [show decide (Lib.indexByte l c + 1 ≥ 0) = true by simp; omega, show decide (Lib.indexByte l c ≥ 0) = true by simp; omega]
theorem bG {α : Type} [Inhabited α] {g : Bool} {o : Option α} (h : g = true) : gcall g o = o := by subst h; rfl
theorem dM {α : Type} [Inhabited α] {g : Bool} {o : Option α} (h : g = false) : gcall g o = some default := by subst h; rfl
theorem aG {α : Type} [Inhabited α] {g : Bool} {o : Option α} {x : α} (h : g = true -> o = some x) : gcall g o = some (bif g then x else default) := by
 cases g with
 | true => exact h rfl
 | false => rfl
theorem aB {α : Type} {p : Prop} [Decidable p] {o : Option α} (h : p) : chk p o = o := by unfold chk; rw [if_pos h]
def gL (b : UInt8) : Bool := (b ≥ 97 && b <= 122) || (b ≥ 65 && b <= 90) || (b ≥ 48 && b <= 57) || ([33, 35, 36, 37, 38, 39, 42, 43, 45, 46, 94, 95, 124, 126, 96] : List UInt8).contains b
def toks : List Bool := (List.range 256).map fun n => gL (UInt8.ofNat n)
theorem xP : text_tokens = some toks := by
 unfold text_tokens
 rw [(eN (r := toks)).2 ⟨257, by kernel_rfl⟩, aD5]
 exact aB (by unfold toks; simp)
theorem aAh (b : UInt8) : toks[b.toNat]? = some (gL b) := by
 unfold toks
 rw [List.getElem?_map, List.getElem?_range b.toNat_lt]
 simp
theorem has_eq (b : UInt8) : text_set_has toks (b.toNat : Int) = some (gL b) := by
 have := b.toNat_lt
 unfold text_set_has
 rw [aB (by omega), aV (aAh b)]; rfl
theorem rW {s : Bytes} (hs : s.length <= maxLen) : text_all s toks (fun x0 x1 => text_set_has x0 x1) = some (s.all gL) := by
 unfold text_all
 have hfold : ∀ (l : Bytes), aY (β := Unit) (fun _ b => bif gL b then .inl () else .inr false) (fun _ => true) l () = l.all gL := by
  intro l
  induction l with
  | nil => rfl
  | cons x l ih =>
   unfold aY
   cases hx : gL x with
   | true => simp only [aDc, aEe, hx, Bool.true_and]; exact ih
   | false => simp [hx]
 rw [<- hfold]
 refine aW s (fun i _ => (i : Int)) _ _ (fun _ _ => True) (fun i b x hx _ => ?_) (fun b _ => ?_) () trivial
 ·have hlt := aP hx
  unfold text_all_b1
  rw [aM hlt, aDc, aV hx, aD5, show (fun x0 x1 => text_set_has x0 x1) = text_set_has from rfl, has_eq, aD5]
  cases gL x with
  | true => exact .inl ⟨(), rfl, by rw [aL hlt hs]; rfl, trivial⟩
  | false => exact .inr ⟨_, rfl, rfl⟩
 ·unfold text_all_b1
  rw [aO]; rfl
def cW (s : Bytes) : Bool := (!(s == ([] : Bytes))) && s.all gL
theorem tC {s : Bytes} (hs : s.length <= maxLen) : text_Token s = some (cW s) := by
 unfold text_Token
 rw [aG (x := toks) (fun _ => xP), aD5]
 cases h : (!(s == ([] : Bytes))) with
 | false => rw [dM rfl, aD5]; unfold cW; rw [h]; rfl
 | true =>
  rw [bG rfl, aDc, rW hs, aD5]
  unfold cW; rw [h]; rfl
theorem aBl (b : UInt8) : intarsiaref03_word (b.toNat : Int) = some (gL b) := by
 have hl : ∀ c : UInt8, loopO (intarsiaref03_word_b1 (c.toNat : Int)) (0 : Int) = some (([33, 35, 36, 37, 38, 39, 42, 43, 45, 46, 94, 95, 124, 126] : Bytes).contains c) := by
  intro c
  have hfold : ∀ (l : Bytes), aY (β := Unit) (fun _ b => bif (b.toNat : Int) == (c.toNat : Int) then .inr true else .inl ()) (fun _ => false) l () = l.contains c := by
   intro l
   induction l with
   | nil => rfl
   | cons x l ih =>
    unfold aY
    rw [aEb]
    by_cases hx : x = c
    ·subst hx; simp
    ·have h1 : ((x.toNat : Int) == (c.toNat : Int)) = false := by
      rw [beq_eq_false_iff_ne]; intro h; exact hx (UInt8.toNat_inj.1 (by omega))
     have h2 : (c == x) = false := by simpa using fun h => hx h.symm
     rw [h1, h2, Bool.false_or]; exact ih
  rw [<- hfold]
  refine aW ([33, 35, 36, 37, 38, 39, 42, 43, 45, 46, 94, 95, 124, 126] : Bytes) (fun i _ => (i : Int)) _ _ (fun _ _ => True) (fun i b x hx _ => ?_) (fun b _ => ?_) () trivial
  ·have hlt := aP hx
   unfold intarsiaref03_word_b1
   rw [aM hlt, aDc, aV hx, aD5]
   cases ((x.toNat : Int) == (c.toNat : Int)) with
   | true => exact .inr ⟨_, rfl, rfl⟩
   | false => exact .inl ⟨(), rfl, by rw [aL hlt (by unfold maxLen; simp)]; rfl, trivial⟩
  ·unfold intarsiaref03_word_b1
   rw [aO]; rfl
 unfold intarsiaref03_word
 rw [hl]
 ·have key := jE (p := fun b => bif (bif (bif (bif (bif (decide ((b.toNat : Int) ≥ (97 : Int))) then (decide ((b.toNat : Int) <= (122 : Int))) else false) then true else (bif (decide ((b.toNat : Int) ≥ (65 : Int))) then (decide ((b.toNat : Int) <= (90 : Int))) else false)) then true else (bif (decide ((b.toNat : Int) ≥ (48 : Int))) then (decide ((b.toNat : Int) <= (57 : Int))) else false)) then true else ((b.toNat : Int) == (96 : Int))) then true else ([33, 35, 36, 37, 38, 39, 42, 43, 45, 46, 94, 95, 124, 126] : Bytes).contains b) (q := gL) (by kernel_rfl) b
  rw [<- key]
  cases (bif (bif (bif (bif (decide ((b.toNat : Int) ≥ (97 : Int))) then (decide ((b.toNat : Int) <= (122 : Int))) else false) then true else (bif (decide ((b.toNat : Int) ≥ (65 : Int))) then (decide ((b.toNat : Int) <= (90 : Int))) else false)) then true else (bif (decide ((b.toNat : Int) ≥ (48 : Int))) then (decide ((b.toNat : Int) <= (57 : Int))) else false)) then true else ((b.toNat : Int) == (96 : Int))) <;> rfl
theorem lU {s : Bytes} (hs : s.length <= maxLen) : intarsiaref03_Token s = some (cW s) := by
 unfold intarsiaref03_Token
 have hfold : ∀ (l : Bytes), aY (β := Unit) (fun _ b => bif gL b then .inl () else .inr false) (fun _ => (!(s == ([] : Bytes)))) l () = (l.all gL && (!(s == ([] : Bytes)))) := by
  intro l
  induction l with
  | nil => rfl
  | cons x l ih =>
   unfold aY
   cases hx : gL x with
   | true => simp only [aDc, aEe, hx, Bool.true_and]; exact ih
   | false => simp [hx]
 unfold cW
 rw [Bool.and_comm, <- hfold]
 refine aW s (fun i _ => (i : Int)) _ _ (fun _ _ => True) (fun i b x hx _ => ?_) (fun b _ => ?_) () trivial
 ·have hlt := aP hx
  unfold intarsiaref03_Token_b1
  rw [aM hlt, aDc, aV hx, aD5, aBl, aD5]
  cases gL x with
  | true => exact .inl ⟨(), rfl, by rw [aL hlt hs]; rfl, trivial⟩
  | false => exact .inr ⟨_, rfl, rfl⟩
 ·unfold intarsiaref03_Token_b1
  rw [aO]; rfl
def fG (b : UInt8) : Bool := b == 32 || b == 9
def fY (p : UInt8 -> Bool) (s : Bytes) : Bytes := s.dropWhile p
def fL (p : UInt8 -> Bool) (s : Bytes) : Bytes := (s.reverse.dropWhile p).reverse
def trim (s : Bytes) : Bytes := fY fG (fL fG s)
theorem gH (p : UInt8 -> Bool) (s : Bytes) (b : UInt8) : fL p (s ++ [b]) = bif p b then fL p s else s ++ [b] := by
 unfold fL
 rw [List.reverse_append, List.reverse_cons, List.reverse_nil, List.nil_append, List.singleton_append, List.dropWhile_cons]
 cases p b <;> simp
theorem xQ (p : UInt8 -> Bool) : fL p [] = [] := rfl
theorem tD (p : UInt8 -> Bool) (s : Bytes) : (fY p s).length <= s.length := (List.dropWhile_sublist p).length_le
theorem aAi (p : UInt8 -> Bool) (s : Bytes) : (fL p s).length <= s.length := by
 unfold fL
 have := (List.dropWhile_sublist p (l := s.reverse)).length_le
 simpa using this
theorem lV (s : Bytes) : (trim s).length <= s.length := Nat.le_trans (tD ..) (aAi ..)
theorem loopL {body : Bytes -> Option (Bytes ⊕ Bytes)} (p : UInt8 -> Bool) (n : Nat) (h0 : body [] = some (.inr [])) (h1 : ∀ x t, t.length < n -> body (x :: t) = some (bif p x then .inl t else .inr (x :: t))) :
  ∀ s, s.length <= n -> loopO body s = some (fY p s) := by
 refine fX (fY p) List.length (fun s => s.length <= n) fun s hs => ?_
 cases s with
 | nil => exact .inr h0
 | cons x t =>
  have hb := h1 x t (by simp at hs; omega)
  cases hx : p x with
  | true =>
   rw [hx] at hb
   exact .inl ⟨t, hb, by simp at hs; omega, by simp, by unfold fY; rw [List.dropWhile_cons_of_pos hx]⟩
  | false =>
   rw [hx] at hb
   refine .inr ?_
   rw [hb]; unfold fY
   rw [List.dropWhile_cons_of_neg (by simp [hx])]; rfl
theorem loopR {body : Bytes -> Option (Bytes ⊕ Bytes)} (p : UInt8 -> Bool) (n : Nat) (h0 : body [] = some (.inr [])) (h1 : ∀ x t, t.length < n -> body (t ++ [x]) = some (bif p x then .inl t else .inr (t ++ [x]))) :
  ∀ s, s.length <= n -> loopO body s = some (fL p s) := by
 refine fX (fL p) List.length (fun s => s.length <= n) fun s hs => ?_
 rcases List.eq_nil_or_concat s with rfl | ⟨t, x, rfl⟩
 ·exact .inr h0
 ·rw [List.concat_eq_append] at hs ⊢
  have hb := h1 x t (by simp at hs; omega)
  rw [gH]
  cases hx : p x with
  | true =>
   rw [hx] at hb
   exact .inl ⟨t, hb, by simp at hs; omega, by simp, rfl⟩
  | false =>
   rw [hx] at hb
   exact .inr hb
theorem kH (x : UInt8) (t : Bytes) : slc (x :: t) (1 : Int) (((x :: t).length : Nat) : Int) = some t := by
 unfold slc
 rw [aB (by simp; omega)]
 simp
theorem kI (x : UInt8) (t : Bytes) (h : t.length < maxLen) : slc (t ++ [x]) 0 (IntKind.i64.wrap (((t ++ [x]).length : Int) - (1 : Int))) = some t := by
 have : IntKind.i64.wrap (((t ++ [x]).length : Int) - (1 : Int)) = (t.length : Int) := by
  unfold maxLen at h
  have e : ((t ++ [x]).length : Int) = (t.length : Int) + 1 := by simp
  rw [e, aC (by omega) (by omega)]; omega
 rw [this]
 unfold slc
 rw [aB (by simp; omega)]
 simp
theorem iG (x : UInt8) (t : Bytes) (h : t.length < maxLen) : idx (t ++ [x]) (IntKind.i64.wrap (((t ++ [x]).length : Int) - (1 : Int))) = some x := by
 have : IntKind.i64.wrap (((t ++ [x]).length : Int) - (1 : Int)) = (t.length : Int) := by
  unfold maxLen at h
  have e : ((t ++ [x]).length : Int) = (t.length : Int) + 1 := by simp
  rw [e, aC (by omega) (by omega)]; omega
 rw [this]
 exact aV (by simp)
theorem kJ (x : UInt8) (t : Bytes) : decide ((((x :: t).length : Nat) : Int) > (0 : Int)) = true := by simp
theorem gI (x : UInt8) (t : Bytes) : decide ((((t ++ [x]).length : Nat) : Int) > (0 : Int)) = true := by simp
def bset : List Bool := (List.range 256).map fun n => fG (UInt8.ofNat n)
theorem aAj (b : UInt8) : bset[b.toNat]? = some (fG b) := by
 unfold bset
 rw [List.getElem?_map, List.getElem?_range b.toNat_lt]
 simp
theorem aBm : strings_makeASCIISet [32, 9] = some (bset, true) := by
 unfold strings_makeASCIISet
 exact eN.2 ⟨3, by kernel_rfl⟩
theorem lW (b : UInt8) : strings_asciiSet_contains bset (b.toNat : Int) = some (fG b) := by
 have := b.toNat_lt
 unfold strings_asciiSet_contains
 rw [aB (by omega), aV (aAj b)]; rfl
theorem j9 {s : Bytes} : strings_trimLeftASCII s bset = some (fY fG s) := by
 unfold strings_trimLeftASCII
 rw [loopL fG s.length rfl (fun x t _ => ?_) s (aD6 _)]
 ·rfl
 ·unfold strings_trimLeftASCII_b1
  rw [kJ, aDc, show idx (x :: t) (0 : Int) = some x from rfl, aD5, lW, aD5, kH, aD5]
  cases fG x <;> rfl
theorem jF {s : Bytes} (hs : s.length <= maxLen) : strings_trimRightASCII s bset = some (fL fG s) := by
 unfold strings_trimRightASCII
 rw [loopR fG s.length rfl (fun x t ht => ?_) s (aD6 _)]
 ·rfl
 ·unfold strings_trimRightASCII_b1
  rw [gI, aDc, iG x t (by omega), aD5, lW, aD5, kI x t (by omega), aD5]
  cases fG x <;> rfl
theorem gZ {s : Bytes} (hs : s.length <= maxLen) : text_Trim s = some (trim s) := by
 unfold text_Trim strings_Trim
 by_cases h : s = []
 ·subst h; rfl
 ·have h1 : (s == ([] : Bytes)) = false := by simpa using h
  rw [h1, show (bif false then true else (([32, 9] : Bytes) == ([] : Bytes))) = false from rfl, aDd, show gidx ((([32, 9] : Bytes).length : Int) == (1 : Int)) ([32, 9] : Bytes) (0 : Int) = some default from rfl, aD5]
  rw [show (bif ((([32, 9] : Bytes).length : Int) == (1 : Int)) then (decide (((default : UInt8).toNat : Int) < (128 : Int))) else false) = false from rfl, aDd, aBm, aD5, aB (by unfold bset; simp), aB (by unfold bset; simp)]
  rw [aDc, jF hs, aD5, j9]; rfl
theorem lX (b : UInt8) : intarsiaref03_blank (b.toNat : Int) = some (fG b) := by
 unfold intarsiaref03_blank
 exact congrArg some (jE (p := fun b => bif ((b.toNat : Int) == (32 : Int)) then true else ((b.toNat : Int) == (9 : Int))) (q := fG) (by kernel_rfl) b)
theorem dY {α : Type} [Inhabited α] {g : Bool} {l : List α} {n : Int} (h : g = true) : gidx g l n = idx l n := by subst h; rfl
theorem aAk {P : Bytes -> Prop} (h0 : P []) (h1 : ∀ t x, P t -> P (t ++ [x])) (s : Bytes) : P s := by
 have : ∀ l : Bytes, P l.reverse := by
  intro l
  induction l with
  | nil => exact h0
  | cons x l ih => rw [List.reverse_cons]; exact h1 _ _ ih
 have h := this s.reverse
 rwa [List.reverse_reverse] at h
theorem vE (p : UInt8 -> Bool) : ∀ (s : Bytes), fL p (fY p s) = fY p (fL p s) := by
 intro s
 have hall : ∀ (l : Bytes), (∀ x, x ∈ l -> p x = true) -> fY p l = [] := by
  intro l hl
  induction l with
  | nil => rfl
  | cons x l ih =>
   unfold fY
   rw [List.dropWhile_cons_of_pos (hl x (aEm ..))]
   exact ih fun y hy => hl y (aEk _ hy)
 have hrev : ∀ l, fL p l = (fY p l.reverse).reverse := fun l => rfl
 -- front: blanks, then one that is not
 rcases Classical.em (∀ x, x ∈ s -> p x = true) with ha | hn
 ·have e : fY p s.reverse = [] := hall _ fun x hx => ha x (by simpa using hx)
  rw [hall s ha, hrev s, e]; rfl
 ·have hsplit : ∀ (l : Bytes), (¬ ∀ x, x ∈ l -> p x = true) -> ∃ a y c, l = a ++ y :: c /\ (∀ x, x ∈ a -> p x = true) /\ p y = false := by
   intro l
   induction l with
   | nil => intro h; exact absurd (by simp) h
   | cons x l ih =>
    intro h
    cases hx : p x with
    | false => exact ⟨[], x, l, rfl, by simp, hx⟩
    | true =>
     obtain ⟨a, y, c, h1, h2, h3⟩ := ih (fun h' => h fun z hz => by
      rcases List.mem_cons.1 hz with rfl | hz
      ·exact hx
      ·exact h' z hz)
     exact ⟨x :: a, y, c, by rw [h1]; rfl, fun z hz => by
      rcases List.mem_cons.1 hz with rfl | hz
      ·exact hx
      ·exact h2 z hz, h3⟩
  obtain ⟨a, y, c, rfl, ha, hy⟩ := hsplit s hn
  have hL : ∀ (u : Bytes), fY p (a ++ y :: u) = y :: u := by
   intro u
   unfold fY
   rw [List.dropWhile_append_of_pos (by simpa using ha), List.dropWhile_cons_of_neg (by simp [hy])]
  have hR' : ∀ (a : Bytes), fL p (a ++ y :: c) = a ++ y :: fL p c := by
   intro a
   clear hL ha hn
   refine aAk (P := fun c => fL p (a ++ y :: c) = a ++ y :: fL p c) ?_ (fun c x ih => ?_) c
   ·rw [xQ, gH, hy]; rfl
   ·rw [show a ++ y :: (c ++ [x]) = (a ++ y :: c) ++ [x] by simp, gH, gH]
    cases p x with
    | true => exact ih
    | false => simp
  rw [hL, hR', hL]
  exact hR' []
theorem gJ {s : Bytes} (hs : s.length <= maxLen) : intarsiaref03_Trim s = some (trim s) := by
 unfold intarsiaref03_Trim
 rw [loopL fG s.length rfl (fun x t ht => ?_) s (aD6 _), aD5]
 ·have hd := tD fG s
  rw [loopR fG s.length rfl (fun x t ht => ?_) (fY fG s) hd, aD5]
  ·rw [vE]; rfl
  ·unfold intarsiaref03_Trim_b2
   rw [dY (gI x t), iG x t (by omega), aD5, bG (gI x t), lX, aD5, gI, aDc, kI x t (by omega), aD5]
   cases fG x <;> rfl
 ·unfold intarsiaref03_Trim_b1
  rw [dY (kJ x t), show idx (x :: t) (0 : Int) = some x from rfl, aD5, bG (kJ x t), lX, aD5, kJ, aDc, kH, aD5]
  cases fG x <;> rfl
def aQ (s p : Bytes) : Bool := p.isPrefixOf s
theorem bW (s p : Bytes) : strings_HasPrefix s p = some (aQ s p) := by
 unfold strings_HasPrefix stringslite_HasPrefix gslc
 rw [aB (fun h => by simp at h; omega)]
 simp only [aD5]
 refine congrArg some ?_
 unfold aQ
 by_cases h : p.length <= s.length
 ·rw [show decide ((s.length : Int) ≥ (p.length : Int)) = true by simp; omega, aDc, aEc, beq_iff_eq, List.isPrefixOf_iff_prefix, List.prefix_iff_eq_take]
  simp only [Int.toNat_zero, List.drop_zero, aEa, Nat.sub_zero]
  exact ⟨fun h => h.symm, fun h => h.symm⟩
 ·rw [show decide ((s.length : Int) ≥ (p.length : Int)) = false by simp; omega, aDd]
  symm
  rw [Bool.eq_false_iff]
  intro hp
  have := (List.isPrefixOf_iff_prefix.1 hp).length_le
  omega
def lowB (b : UInt8) : UInt8 := bif b ≥ 65 && b <= 90 then b + 32 else b
def bI (s : Bytes) : Bytes := s.map lowB
theorem p4 (s : Bytes) : (bI s).length = s.length := by simp [bI]
theorem low1 (b : UInt8) : (bif (bif (decide ((b.toNat : Int) ≥ (65 : Int))) then (decide ((b.toNat : Int) <= (90 : Int))) else false) then u8 (IntKind.u8.wrap ((IntKind.u8.wrap ((b.toNat : Int) + (97 : Int))) - (65 : Int))) else b) = lowB b := by
 have := cO (p := fun b => (bif (bif (decide ((b.toNat : Int) ≥ (65 : Int))) then (decide ((b.toNat : Int) <= (90 : Int))) else false) then u8 (IntKind.u8.wrap ((IntKind.u8.wrap ((b.toNat : Int) + (97 : Int))) - (65 : Int))) else b) == lowB b) (by kernel_rfl) b
 simpa using this
theorem low2 (b : UInt8) : (bif (bif (decide ((b.toNat : Int) ≥ (65 : Int))) then (decide ((b.toNat : Int) <= (90 : Int))) else false) then u8 (IntKind.u8.wrap ((b.toNat : Int) + (32 : Int))) else b) = lowB b := by
 have := cO (p := fun b => (bif (bif (decide ((b.toNat : Int) ≥ (65 : Int))) then (decide ((b.toNat : Int) <= (90 : Int))) else false) then u8 (IntKind.u8.wrap ((b.toNat : Int) + (32 : Int))) else b) == lowB b) (by kernel_rfl) b
 simpa using this
theorem aBn {α : Type} {l : List α} {i : Nat} {x : α} (h : i < l.length) : seti l (i : Int) x = some (l.set i x) := by
 unfold seti
 rw [aB (by omega), aEa]
theorem tE {s : Bytes} (hs : s.length <= maxLen) : text_Lower s = some (bI s) := by
 unfold text_Lower
 have key : loopO (text_Lower_b1 s) ((0 : Int), s) = some (bI s) := by
  have h := fX (body := text_Lower_b1 s) (fun _ => bI s) (fun x => s.length - x.1.toNat) (fun x => ∃ i : Nat, i <= s.length /\ x = ((i : Int), bI (s.take i) ++ s.drop i)) ?_ ((0 : Int), s) ⟨0, aD7 _, by simp [bI]⟩
  ·exact h
  ·rintro _ ⟨i, hi, rfl⟩
   rcases Nat.lt_or_ge i s.length with hlt | hge
   ·left
    have hget : (bI (s.take i) ++ s.drop i)[i]? = some s[i] := by
     rw [List.getElem?_append_right (by simp [bI]; omega)]
     simp [bI, show min i s.length = i by omega]
    have hll : (bI (s.take i) ++ s.drop i).length = s.length := by simp [bI]; omega
    refine ⟨(((i + 1 : Nat) : Int), bI (s.take (i + 1)) ++ s.drop (i + 1)), ?_, ⟨i + 1, hlt, rfl⟩, by simp; omega, rfl⟩
    have hnew : (bI (s.take i) ++ s.drop i).set i (lowB s[i]) = bI (s.take (i + 1)) ++ s.drop (i + 1) := by
     rw [aEl hlt, List.drop_eq_getElem_cons hlt]
     have hl : (bI (s.take i)).length = i := by simp [bI]; omega
     rw [List.set_append_right _ _ (by omega), hl, Nat.sub_self, List.set_cons_zero]
     unfold bI
     rw [List.map_append, List.append_assoc]; rfl
    have hsame : lowB s[i] = s[i] -> bI (s.take i) ++ s.drop i = bI (s.take (i + 1)) ++ s.drop (i + 1) := fun h => by
     rw [<- hnew, h]
     refine (List.ext_getElem? fun j => ?_)
     rw [List.getElem?_set]
     by_cases hj : i = j
     ·subst hj; rw [if_pos rfl, if_pos (by omega), hget]
     ·rw [if_neg hj]
    unfold text_Lower_b1
    dsimp only
    rw [aM hlt, aDc, aB (by omega), aV hget, aD5, aB (by omega), aBn (by omega), aD5, aL hlt hs]
    have h1 := low1 s[i]
    cases hc : (bif (decide ((s[i].toNat : Int) ≥ (65 : Int))) then (decide ((s[i].toNat : Int) <= (90 : Int))) else false) with
    | true =>
     rw [hc, aDc] at h1
     rw [h1, hnew]; rfl
    | false =>
     rw [hc, aDd] at h1
     rw [aDd, hsame h1.symm]
   ·right
    have : i = s.length := by omega
    subst this
    unfold text_Lower_b1
    dsimp only
    rw [aO]
    simp [bI]
 rw [key, aD5, aB (by rw [p4]; exact aD6 _), aD9 (by rw [p4]; exact aD6 _)]
theorem xR {s t : Bytes} (hs : s.length <= maxLen) (ht : t.length <= maxLen) : text_Same s t = some (bI s == bI t) := by
 unfold text_Same
 rw [tE hs, aD5, tE ht]; rfl
theorem bZ {s t : Bytes} (h : s.length + t.length <= maxLen) : cat s t = some (s ++ t) := by unfold cat; exact aB h
theorem n8 {l : Bytes} (hl : l.length <= maxLen) {ρ : Type} {body : Int -> Option (Int ⊕ ρ)} (p : UInt8 -> Bool) (yes no : ρ) (hs : ∀ (i : Nat) (x : UInt8), l[i]? = some x -> body (i : Int) = some (bif p x then .inr yes else .inl (((i + 1 : Nat)) : Int)))
  (hf : body (l.length : Int) = some (.inr no)) : loopO body (0 : Int) = some (bif l.any p then yes else no) := by
 have hfold : ∀ (l : Bytes), aY (β := Unit) (fun _ b => bif p b then .inr yes else .inl ()) (fun _ => no) l () = bif l.any p then yes else no := by
  intro l
  induction l with
  | nil => rfl
  | cons x l ih =>
   unfold aY
   rw [List.any_cons]
   cases hx : p x with
   | true => rfl
   | false => exact ih
 rw [<- hfold]
 refine aW l (fun i _ => (i : Int)) _ _ (fun _ _ => True) (fun i b x hx _ => ?_) (fun b _ => hf) () trivial
 have := hs i x hx
 cases hp : p x with
 | true => rw [hp] at this; exact .inr ⟨yes, rfl, this⟩
 | false => rw [hp] at this; exact .inl ⟨(), rfl, this, trivial⟩
def ctlB (b : UInt8) : Bool := (b < 32 && b != 9) || b == 127
theorem rX (b : UInt8) : (bif (bif (decide ((b.toNat : Int) < (32 : Int))) then ((b.toNat : Int) != (9 : Int)) else false) then true else ((b.toNat : Int) == (127 : Int))) = ctlB b :=
 jE (p := fun b => bif (bif (decide ((b.toNat : Int) < (32 : Int))) then ((b.toNat : Int) != (9 : Int)) else false) then true else ((b.toNat : Int) == (127 : Int))) (q := ctlB) (by kernel_rfl) b
theorem m6 (b : UInt8) : intarsiaref03_Control (b.toNat : Int) = some (ctlB b) := congrArg some (rX b)
theorem aBo (b : UInt8) : table_may_1 (b.toNat : Int) = some (ctlB b) := congrArg some (rX b)
theorem xS (b : UInt8) : start_Right_1 (b.toNat : Int) = some (ctlB b) := congrArg some (rX b)
def mayB (f : S_Field) : Bool := cW f.Name && ((trim f.Value == f.Value) && (decide (f.Value.length <= 1000) && !(f.Value.any ctlB)))
structure iH (f : S_Field) : Prop where
 name : f.Name.length <= maxLen
 value : f.Value.length <= maxLen
theorem aAO {f : S_Field} (h : iH f) : table_may f = some (mayB f) := by
 unfold table_may
 rw [tC h.name, aD5, aG (fun _ => gZ h.value), aD5]
 rw [aG (fun _ => cZ ctlB aBo h.value), aD5]
 refine congrArg some ?_
 unfold mayB
 have e : decide ((f.Value.length : Int) <= (1000 : Int)) = decide (f.Value.length <= 1000) := by simp; omega
 rw [e]
 cases cW f.Name <;> cases hd : decide (f.Value.length <= 1000) <;> cases ha : f.Value.any ctlB <;> cases ht : (trim f.Value == f.Value) <;> simp [ht]
theorem p5 {f : S_Field} (h : iH f) : intarsiaref04_May f = some (mayB f) := by
 unfold intarsiaref04_May
 have e : decide ((f.Value.length : Int) <= (1000 : Int)) = decide (f.Value.length <= 1000) := by simp; omega
 rw [n8 h.value ctlB false (cW f.Name && ((trim f.Value == f.Value) && decide (f.Value.length <= 1000))) (fun i x hx => ?_) ?_]
 ·refine congrArg some ?_
  unfold mayB
  cases cW f.Name <;> cases decide (f.Value.length <= 1000) <;> cases f.Value.any ctlB <;> cases (trim f.Value == f.Value) <;> rfl
 ·unfold intarsiaref04_May_b1
  rw [aO, aDd, lU h.name, aD5, aG (fun _ => gJ h.value), aD5, e]
  cases cW f.Name <;> cases decide (f.Value.length <= 1000) <;> cases ht : (trim f.Value == f.Value) <;> simp [ht]
 ·have hlt := aP hx
  unfold intarsiaref04_May_b1
  rw [aM hlt, aDc, aV hx, aD5, m6, aD5, aL hlt h.value]
  cases ctlB x <;> rfl
def dZ (l : List S_Field) : Bool := decide (l.length <= 40) && l.all mayB
theorem n9 {l : List S_Field} (hl : l.length <= maxLen) (h : ∀ f, f ∈ l -> iH f) : table_Right l = some (dZ l) := by
 unfold table_Right
 have e : decide ((l.length : Int) <= (40 : Int)) = decide (l.length <= 40) := by simp; omega
 rw [aG (fun _ => iF (fun f => !mayB f) (fun f hf => by show table_Right_1 f = _; unfold table_Right_1; rw [aAO (h f hf)]; rfl) hl), aD5, e]
 refine congrArg some ?_
 unfold dZ
 have : l.all mayB = !(l.any fun f => !mayB f) := by simp [List.any_eq_not_all_not]
 rw [this]
 cases decide (l.length <= 40) <;> rfl
theorem lY {l : List S_Field} (hl : l.length <= maxLen) (h : ∀ f, f ∈ l -> iH f) : intarsiaref04_Right l = some (dZ l) := by
 unfold intarsiaref04_Right
 have e : decide ((l.length : Int) <= (40 : Int)) = decide (l.length <= 40) := by simp; omega
 have hfold : ∀ (m : List S_Field), aY (β := Unit) (fun _ f => bif mayB f then .inl () else .inr false) (fun _ => decide (l.length <= 40)) m () = (m.all mayB && decide (l.length <= 40)) := by
  intro m
  induction m with
  | nil => rfl
  | cons x m ih =>
   unfold aY
   rw [aEe]
   cases hx : mayB x with
   | true => exact ih
   | false => rfl
 unfold dZ
 rw [Bool.and_comm, <- hfold]
 refine aW l (fun i _ => (i : Int)) _ _ (fun _ _ => True) (fun i b x hx _ => ?_) (fun b _ => ?_) () trivial
 ·have hlt := aP hx
  unfold intarsiaref04_Right_b1
  rw [aM hlt, aDc, aV hx, aD5, p5 (h x (aEf hx)), aD5]
  cases mayB x with
  | true => exact .inl ⟨(), rfl, by rw [aL hlt hl]; rfl, trivial⟩
  | false => exact .inr ⟨_, rfl, rfl⟩
 ·unfold intarsiaref04_Right_b1
  rw [aO, aDd, e]
def badU (b : UInt8) : Bool := (b <= 32 || b > 126) || ([34, 35, 60, 62, 92, 94, 123, 124, 125, 96] : List UInt8).contains b
theorem vF (b : UInt8) : start_target_1 (b.toNat : Int) = some (badU b) := by
 unfold start_target_1
 rw [aG (fun _ => cD _ _), aD5, p3]
 refine congrArg some ?_
 have h1 := cP ([34, 35, 60, 62, 92, 94, 123, 124, 125, 96] : Bytes) b
 have h2 := jE (p := fun b => bif (bif (decide ((b.toNat : Int) <= (32 : Int))) then true else (decide ((b.toNat : Int) > (126 : Int)))) then true else ([34, 35, 60, 62, 92, 94, 123, 124, 125, 96] : Bytes).contains b) (q := badU) (by kernel_rfl) b
 rw [<- h2, <- h1]
 cases (bif (decide ((b.toNat : Int) <= (32 : Int))) then true else (decide ((b.toNat : Int) > (126 : Int)))) <;> rfl
def http : Bytes := [104, 116, 116, 112, 58, 47, 47]
def fH (s : Bytes) : Bool := (s == ([42] : Bytes)) || ((aQ s [47] || aQ s http) && (decide (s.length <= 500) && !(s.any badU)))
theorem xT {s : Bytes} (hs : s.length <= maxLen) : start_target s = some (fH s) := by
 unfold start_target fH
 have e : decide ((s.length : Int) <= (500 : Int)) = decide (s.length <= 500) := by simp; omega
 cases h0 : (s == ([42] : Bytes)) with
 | true => rfl
 | false =>
  rw [aDd, bW, aD5, aG (fun _ => bW s _), aD5, aG (fun _ => cZ badU vF hs), aD5, e]
  refine congrArg some ?_
  show _ = (false || ((aQ s [47] || aQ s [104, 116, 116, 112, 58, 47, 47]) && _))
  cases aQ s [47] <;> cases aQ s [104, 116, 116, 112, 58, 47, 47] <;> cases decide (s.length <= 500) <;> cases s.any badU <;> rfl
theorem xU {s : Bytes} (hs : s.length <= maxLen) (c : UInt8) : intarsiaref05_find s (c.toNat : Int) = some (idxP (fun b => b == c) s 0) := by
 unfold intarsiaref05_find
 rw [<- iE]
 refine aW s (fun i _ => (i : Int)) _ _ (fun i b => b = i) (fun i b x hx hi => ?_) (fun b hi => ?_) 0 rfl
 ·subst hi
  have hlt := aP hx
  unfold intarsiaref05_find_b1
  rw [aM hlt, aDc, aV hx, aD5]
  have : ((x.toNat : Int) == (c.toNat : Int)) = (x == c) := by
   rw [aEc, beq_iff_eq, beq_iff_eq]
   exact ⟨fun h => UInt8.toNat_inj.1 (by omega), fun h => by rw [h]⟩
  rw [this]
  cases x == c with
  | true => exact .inr ⟨_, rfl, rfl⟩
  | false => exact .inl ⟨_, rfl, by rw [aL hlt hs]; rfl, rfl⟩
 ·unfold intarsiaref05_find_b1
  rw [aO]; rfl
theorem rY {s : Bytes} (hs : s.length <= maxLen) : intarsiaref05_Bytes s = some (!(s.any badU)) := by
 unfold intarsiaref05_Bytes
 rw [n8 hs badU false true (fun i x hx => ?_) ?_]
 ·cases s.any badU <;> rfl
 ·unfold intarsiaref05_Bytes_b1
  rw [aO]; rfl
 ·have hlt := aP hx
  unfold intarsiaref05_Bytes_b1
  rw [aM hlt, aDc, aV hx, aD5, aG (fun _ => xU (by unfold maxLen; simp) x), aD5, aL hlt hs]
  have h2 := jE (p := fun b => bif (bif (bif (decide ((b.toNat : Int) < (33 : Int))) then true else (decide ((b.toNat : Int) > (126 : Int)))) then true else ((b.toNat : Int) == (96 : Int))) then true else ([34, 35, 60, 62, 92, 94, 123, 124, 125] : Bytes).any fun c => c == b) (q := badU) (by kernel_rfl) x
  rw [<- h2, <- kG _ _ 0]
  cases (bif (bif (decide ((x.toNat : Int) < (33 : Int))) then true else (decide ((x.toNat : Int) > (126 : Int)))) then true else ((x.toNat : Int) == (96 : Int))) with
  | true => rfl
  | false =>
   simp only [Bool.not_false, aDc, aDd]
   cases decide (idxP (fun c => c == x) ([34, 35, 60, 62, 92, 94, 123, 124, 125] : Bytes) 0 ≥ (0 : Int)) <;> rfl
def aS (s : S_Start) : Bool :=
 (s.Minor == 0 || s.Minor == 1) &&
 bif s.Code == 0 then (s.Reason == ([] : Bytes)) && (cW s.Method && (decide (s.Method.length <= 20) && fH s.Target))
 else (decide (s.Code ≥ 100) && decide (s.Code <= 599)) && ((s.Method == ([] : Bytes)) && ((s.Target == ([] : Bytes)) && (decide (s.Reason.length <= 100) && ((trim s.Reason == s.Reason) && !(s.Reason.any ctlB)))))
structure d3 (s : S_Start) : Prop where
 method : s.Method.length <= maxLen
 target : s.Target.length <= maxLen
 reason : s.Reason.length <= maxLen
theorem fZ {s : S_Start} (h : d3 s) : start_Right s = some (aS s) := by
 unfold start_Right aS
 have e1 : decide ((s.Method.length : Int) <= (20 : Int)) = decide (s.Method.length <= 20) := by simp; omega
 have e2 : decide ((s.Reason.length : Int) <= (100 : Int)) = decide (s.Reason.length <= 100) := by simp; omega
 have e0 : (bif (s.Minor != (0 : Int)) then (s.Minor != (1 : Int)) else false) = !(s.Minor == 0 || s.Minor == 1) := by
  show (bif !(s.Minor == 0) then !(s.Minor == 1) else false) = _
  cases s.Minor == 0 <;> cases s.Minor == 1 <;> rfl
 rw [e0]
 cases (s.Minor == 0 || s.Minor == 1) with
 | false => rfl
 | true =>
  simp only [Bool.not_true, aDd, Bool.true_and]
  cases s.Code == 0 with
  | true =>
   simp only [aDc]
   rw [aG (fun _ => tC h.method), aD5, aG (fun _ => xT h.target), aD5, e1]
   refine congrArg some ?_
   cases (s.Reason == ([] : Bytes)) <;> cases cW s.Method <;> cases decide (s.Method.length <= 20) <;> cases fH s.Target <;> rfl
  | false =>
   simp only [aDd]
   rw [aG (fun _ => gZ h.reason), aD5, aG (fun _ => cZ ctlB xS h.reason), aD5, e2]
   refine congrArg some ?_
   cases decide (s.Code ≥ 100) <;> cases decide (s.Code <= 599) <;> cases (s.Method == ([] : Bytes)) <;> cases (s.Target == ([] : Bytes)) <;> cases decide (s.Reason.length <= 100) <;> cases s.Reason.any ctlB <;> cases ht : (trim s.Reason == s.Reason) <;> simp [ht]
theorem tgt_eq {t : Bytes} (ht : t.length <= maxLen) : fH t = ((t == ([42] : Bytes)) || ((decide (t.length > 0) && (decide (t.length <= 500) && !(t.any badU))) && ((t.head? == some 47) || (t.take 7 == http)))) := by
 unfold fH
 have h1 : aQ t [47] = (t.head? == some 47) := by
  cases t with
  | nil => rfl
  | cons x t =>
   show (47 == x && ([] : Bytes).isPrefixOf t) = _
   rw [aEc]
   simp only [aEj, Bool.and_true, beq_iff_eq, List.head?_cons, Option.some.injEq]
   exact ⟨fun h => h.symm, fun h => h.symm⟩
 have h2 : aQ t http = (t.take 7 == http) := by
  unfold aQ
  rw [aEc, List.isPrefixOf_iff_prefix, List.prefix_iff_eq_take, beq_iff_eq]
  exact ⟨fun h => h.symm, fun h => h.symm⟩
 rw [h1, h2]
 cases t with
 | nil => rfl
 | cons x t =>
  rw [show decide ((x :: t).length > 0) = true by simp]
  cases ((x :: t) == ([42] : Bytes)) <;> cases ((x :: t).head? == some 47) <;> cases ((x :: t).take 7 == http) <;> cases decide ((x :: t).length <= 500) <;> cases (x :: t).any badU <;> rfl
theorem d9 {s : S_Start} (h : d3 s) : intarsiaref06_Right s = some (aS s) := by
 unfold intarsiaref06_Right aS
 have e1 : decide ((s.Method.length : Int) <= (20 : Int)) = decide (s.Method.length <= 20) := by simp; omega
 have e2 : decide ((s.Reason.length : Int) <= (100 : Int)) = decide (s.Reason.length <= 100) := by simp; omega
 have e0 : (bif (decide (s.Minor < (0 : Int))) then true else (decide (s.Minor > (1 : Int)))) = !(s.Minor == 0 || s.Minor == 1) := by
  rw [aEc]
  by_cases h1 : s.Minor < 0
  ·simp [h1]; omega
  ·simp [h1]; omega
 rw [e0]
 cases (s.Minor == 0 || s.Minor == 1) with
 | false => rfl
 | true =>
  simp only [Bool.not_true, aDd, Bool.true_and]
  show (bif !(s.Code == 0) then _ else _) = _
  cases s.Code == 0 with
  | false =>
   simp only [Bool.not_false, aDc, aDd]
   have e3 : decide (s.Code < (600 : Int)) = decide (s.Code <= 599) := by simp; omega
   rw [n8 h.reason ctlB false ((decide (s.Code ≥ 100) && decide (s.Code <= 599)) && ((s.Method == ([] : Bytes)) && ((s.Target == ([] : Bytes)) && (decide (s.Reason.length <= 100) && (trim s.Reason == s.Reason))))) (fun i x hx => ?_) ?_]
   ·refine congrArg some ?_
    cases decide (s.Code ≥ 100) <;> cases decide (s.Code <= 599) <;> cases (s.Method == ([] : Bytes)) <;> cases (s.Target == ([] : Bytes)) <;> cases decide (s.Reason.length <= 100) <;> cases s.Reason.any ctlB <;> cases (trim s.Reason == s.Reason) <;> rfl
   ·unfold intarsiaref06_Right_b1
    rw [aO, aDd, aG (fun _ => gJ h.reason), aD5, e2, e3]
    cases decide (s.Code ≥ 100) <;> cases decide (s.Code <= 599) <;> cases (s.Method == ([] : Bytes)) <;> cases (s.Target == ([] : Bytes)) <;> cases decide (s.Reason.length <= 100) <;> cases ht : (trim s.Reason == s.Reason) <;> simp [ht]
   ·have hlt := aP hx
    unfold intarsiaref06_Right_b1
    rw [aM hlt, aDc, aV hx, aD5, m6, aD5, aL hlt h.reason]
    cases ctlB x <;> rfl
  | true =>
   simp only [Bool.not_true, aDc, aDd]
   have e4 : decide ((s.Target.length : Int) > (0 : Int)) = decide (s.Target.length > 0) := by simp <;> omega
   have e5 : decide ((s.Target.length : Int) <= (500 : Int)) = decide (s.Target.length <= 500) := by simp; omega
   rw [tgt_eq h.target, aG (fun _ => rY h.target), aD5, e1, e4, e5]
   generalize hg : s.Target = t at *
   cases t with
   | nil =>
    refine Eq.trans (b := some false) rfl ?_
    refine congrArg some ?_
    cases (s.Reason == ([] : Bytes)) <;> cases cW s.Method <;> cases decide (s.Method.length <= 20) <;> rfl
   | cons x t =>
    have hd0 : decide ((x :: t).length > 0) = true := by simp
    rw [hd0]
    have hx : ∀ g, gidx g (x :: t) (0 : Int) = some (bif g then x else default) := fun g => by cases g <;> rfl
    have h7 : decide ((((x :: t).length : Nat) : Int) ≥ (7 : Int)) = decide (7 <= (x :: t).length) := by simp; omega
    have hsl : ∀ g, (g = true -> 7 <= (x :: t).length) -> gslc g (x :: t) 0 (7 : Int) = some ((x :: t).take 7) := fun g hg => by
     unfold gslc
     rw [aB (fun h => by have := hg h; omega)]; rfl
    rw [hx, aD5, h7, hsl _ (fun h => by simp at h; have := h.2; simp; omega), aD5, aG (fun _ => lU h.method), aD5]
    refine congrArg some ?_
    have hb : ((x.toNat : Int) == (47 : Int)) = ((x :: t).head? == some 47) := by
     rw [aEc, beq_iff_eq, List.head?_cons, beq_iff_eq, Option.some.injEq]
     exact ⟨fun h => UInt8.toNat_inj.1 (by have : (47 : UInt8).toNat = 47 := rfl; omega), fun h => by rw [h]; rfl⟩
    have hbd : (((default : UInt8).toNat : Int) == (47 : Int)) = false := rfl
    have hlong : ((x :: t).take 7 == http) = true -> decide (7 <= (x :: t).length) = true := fun h => by
     have := congrArg List.length (beq_iff_eq.1 h)
     simp [http] at this ⊢; omega
    show _ = ((s.Reason == ([] : Bytes)) && (cW s.Method && (decide (s.Method.length <= 20) && (((x :: t) == ([42] : Bytes)) || ((true && (decide ((x :: t).length <= 500) && !((x :: t).any badU))) && (((x :: t).head? == some 47) || ((x :: t).take 7 == http)))))))
    rw [show ([104, 116, 116, 112, 58, 47, 47] : Bytes) = http from rfl, <- hb]
    have hq : (bif decide (7 <= (x :: t).length) then ((x :: t).take 7 == http) else false) = ((x :: t).take 7 == http) := by
     revert hlong
     cases ((x :: t).take 7 == http) with
     | false => intro _; cases decide (7 <= (x :: t).length) <;> rfl
     | true => intro h; rw [h rfl]; rfl
    have hxd : ∀ g : Bool, (((bif g then x else default : UInt8).toNat : Int) == (47 : Int)) = (bif g then ((x.toNat : Int) == (47 : Int)) else false) := fun g => by cases g <;> rfl
    simp only [hq, hxd]
    generalize ((x :: t).take 7 == http) = q1
    generalize ((x.toNat : Int) == (47 : Int)) = q3
    cases ((x :: t) == ([42] : Bytes)) <;> cases decide ((x :: t).length <= 500) <;> cases (x :: t).any badU <;> cases q1 <;> cases q3 <;> cases (s.Reason == ([] : Bytes)) <;> cases cW s.Method <;> cases decide (s.Method.length <= 20) <;> rfl
theorem m7 {α : Type} {e : Nat} {s t : List α} (h : s.length + t.length <= 1000000) (he : e <= 1000) : app e s t = some (s ++ t) := by
 unfold app
 refine aB ⟨by unfold maxLen; omega, ?_⟩
 calc (s.length + t.length) * e <= 1000000 * 1000 := Nat.mul_le_mul h he
  _ <= _ := by decide
theorem aBp {n : Nat} (h : n <= 1000000) : n <= maxLen := by unfold maxLen; omega
theorem lZ {α : Type} (p : α -> Bool) : ∀ (l acc : List α), aY (ρ := List α) (fun a x => .inl (bif p x then a ++ [x] else a)) (fun a => a) l acc = acc ++ l.filter p
 | [], acc => by simp [aY]
 | x :: l, acc => by
  show aY _ _ l (bif p x then acc ++ [x] else acc) = _
  rw [lZ p l]
  cases hx : p x <;> simp [hx]
theorem aBq {l : List S_Field} {pi : S_Field -> Option Bool} (p : S_Field -> Bool) (hp : ∀ f, f ∈ l -> pi f = some (p f)) (hl : l.length <= 1000000) : table_keep_api_Field l pi = some (l.filter p) := by
 unfold table_keep_api_Field
 have key := aW (body := table_keep_api_Field_b1 l pi) l (fun i b => (b, (i : Int))) (fun a x => .inl (bif p x then a ++ [x] else a)) (fun a => a) (fun i b => b.length <= i) (fun i b x hx hi => ?_) (fun b hi => ?_) [] (aD6 _)
 ·rw [show (([] : List S_Field), (0 : Int)) = (([] : List S_Field), ((0 : Nat) : Int)) from rfl, key, lZ]; rfl
 ·have hlt := aP hx
  refine .inl ⟨_, rfl, ?_, ?_⟩
  ·unfold table_keep_api_Field_b1
   dsimp only
   rw [aM hlt, aDc, aV hx, aD5, hp x (aEf hx), aD5, aL hlt (aBp hl), m7 (by simp; omega) (by omega), aD5]
   cases p x <;> rfl
  ·cases p x <;> simp <;> omega
 ·unfold table_keep_api_Field_b1
  dsimp only
  rw [aO]; rfl
def isN (n : Bytes) (f : S_Field) : Bool := bI f.Name == bI n
def bH (l : List S_Field) (n : Bytes) : List Bytes := (l.filter (isN n)).map (·.Value)
theorem tF {α β : Type} (g : α -> β) : ∀ (l : List α) (acc : List β), aY (ρ := List β) (fun a x => .inl (a ++ [g x])) (fun a => a) l acc = acc ++ l.map g
 | [], acc => by simp [aY]
 | x :: l, acc => by
  show aY _ _ l (acc ++ [g x]) = _
  rw [tF g l]; simp
theorem aAP {l : List S_Field} {n : Bytes} (hl : l.length <= 1000000) (h : ∀ f, f ∈ l -> iH f) (hn : n.length <= maxLen) : table_All l n = some (bH l n) := by
 unfold table_All table_named bH
 rw [aD5, aBq (isN n) (fun f hf => by
  show table_named_1 f n = _
  unfold table_named_1
  rw [xR (h f hf).name hn]; rfl) hl, aD5]
 have hk : (l.filter (isN n)).length <= 1000000 := Nat.le_trans (List.length_filter_le ..) hl
 generalize l.filter (isN n) = m at hk
 have key := aW (body := table_All_b1 m) m (fun i b => (b, (i : Int))) (fun a x => .inl (a ++ [x.Value])) (fun a => a) (fun i b => b.length <= i) (fun i b x hx hi => ?_) (fun b hi => ?_) [] (aD6 _)
 ·rw [show (([] : List Bytes), (0 : Int)) = (([] : List Bytes), ((0 : Nat) : Int)) from rfl, key, tF]; rfl
 ·have hlt := aP hx
  refine .inl ⟨_, rfl, ?_, by simp; omega⟩
  unfold table_All_b1
  dsimp only
  rw [aM hlt, aDc, aV hx, aD5, aL hlt (aBp hk), m7 (by simp; omega) (by omega), aD5]
 ·unfold table_All_b1
  dsimp only
  rw [aO]; rfl
theorem vG (x : S_Field) (l : List S_Field) (n : Bytes) : bH (x :: l) n = bif isN n x then x.Value :: bH l n else bH l n := by
 unfold bH
 rw [List.filter_cons]
 cases isN n x <;> rfl
def sep : Bytes := [44, 32]
theorem xV (M : Nat) : ∀ (r : List Bytes), (∀ s, s ∈ r -> s.length <= M) -> (Lib.joinTail sep r).length <= r.length * (M + 2)
 | [], _ => by simp [Lib.joinTail]
 | x :: r, h => by
  have h1 := xV M r fun s hs => h s (aEk _ hs)
  have h2 := h x (aEm ..)
  unfold Lib.joinTail at h1 ⊢
  simp only [List.map_cons, List.flatten_cons, aEg, aEi, Nat.add_mul]
  have : sep.length = 2 := rfl
  omega
theorem aBr (M : Nat) (l : List Bytes) (h : ∀ s, s ∈ l -> s.length <= M) : (Lib.join l sep).length <= l.length * (M + 2) := by
 cases l with
 | nil => simp [Lib.join]
 | cons x r =>
  rw [Lib.join_cons, aEg, aEi, Nat.add_mul]
  have h1 := xV M r fun s hs => h s (aEk _ hs)
  have h2 := h x (aEm ..)
  omega
theorem xW (l : List Bytes) (x : Bytes) (h : l ≠ []) : Lib.join (l ++ [x]) sep = Lib.join l sep ++ sep ++ x := by
 cases l with
 | nil => exact absurd rfl h
 | cons y r =>
  rw [List.cons_append, Lib.join_cons, Lib.join_cons]
  unfold Lib.joinTail
  simp [List.append_assoc]
structure jV (l : List Bytes) : Prop where
 len : l.length <= 100000
 each : ∀ s, s ∈ l -> s.length <= 100000
theorem jV.join {l : List Bytes} (h : jV l) : (Lib.join l sep).length <= 10000200000 := by
 have h1 := aBr 100000 l h.each
 have h2 : l.length * (100000 + 2) <= 100000 * (100000 + 2) := Nat.mul_le_mul_right _ h.len
 omega
theorem jV.take {l : List Bytes} (h : jV l) (i : Nat) : jV (l.take i) := ⟨by have := h.len; simp; omega, fun s hs => h.each s (List.mem_of_mem_take hs)⟩
theorem aBs {l : List Bytes} (h : jV l) : strings_Join l [44, 32] = some (Lib.join l sep) := by
 unfold strings_Join
 have := h.join
 have := h.len
 exact aB ⟨by omega, by show (Lib.join l sep).length <= _; omega⟩
def dv (b : UInt8) : Int := (b.toNat : Int) - 48
def bQ (b : UInt8) : Bool := b ≥ 48 && b <= 57
theorem vH {b : UInt8} (h : bQ b = true) : 0 <= dv b /\ dv b <= 9 := by
 have := cO (p := fun b => !bQ b || (decide (0 <= dv b) && decide (dv b <= 9))) (by kernel_rfl) b
 rw [h] at this
 simpa using this
def over : Bytes -> Int -> Bool
 | [], _ => false
 | x :: l, n => bif decide (n * 10 + dv x > 1099511627776) then true else over l (n * 10 + dv x)
def valF : Bytes -> Int -> Int
 | [], n => n
 | x :: l, n => valF l (n * 10 + dv x)
def decR (t : Bytes) (n : Int) (long : Bool) : Int × Int := bif t.all bQ then (bif long || over t n then (0, 2) else (valF t n, 0)) else (0, 10)
def dec (s : Bytes) : Int × Int := bif s == ([] : Bytes) then (0, 10) else decR s 0 false
theorem dig1 (b : UInt8) : decide ((IntKind.u64.wrap (IntKind.u8.wrap ((b.toNat : Int) - (48 : Int)))) ≥ (10 : Int)) = !bQ b := by
 have := cO (p := fun b => decide ((IntKind.u64.wrap (IntKind.u8.wrap ((b.toNat : Int) - (48 : Int)))) ≥ (10 : Int)) == !bQ b) (by kernel_rfl) b
 simpa using this
theorem dig2 {b : UInt8} (h : bQ b = true) : IntKind.u64.wrap (IntKind.u8.wrap ((b.toNat : Int) - (48 : Int))) = dv b := by
 have := cO (p := fun b => !bQ b || (IntKind.u64.wrap (IntKind.u8.wrap ((b.toNat : Int) - (48 : Int))) == dv b)) (by kernel_rfl) b
 rw [h] at this
 simpa using this
def oA (c : Int × Bool) (x : UInt8) : (Int × Bool) ⊕ (Int × Int) := bif bQ x then (bif decide (c.1 * 10 + dv x > 1099511627776) then .inl (0, true) else .inl (c.1 * 10 + dv x, c.2)) else .inr (0, 10)
def xX (c : Int × Bool) : Int × Int := bif c.2 then (0, 2) else (c.1, 0)
def tG (c : Int) (x : UInt8) : Int ⊕ (Int ⊕ (Int × Int)) := bif decide (c * 10 + dv x > 1099511627776) then .inr (.inr (0, 2)) else .inl (c * 10 + dv x)
def rdFin (c : Int) : Int ⊕ (Int × Int) := .inr (c, 0)
theorem jG {s : Bytes} (hs : s.length <= maxLen) : number_ReadDec s = some (dec s) := by
 unfold number_ReadDec number_read_uint64 dec
 cases h0 : (s == ([] : Bytes)) with
 | true => rfl
 | false =>
  simp only [aDd]
  have hf : ∀ (l : Bytes) (n : Int) (long : Bool), aY oA xX l (n, long) = decR l n long := by
   intro l
   induction l with
   | nil => intro n long; unfold decR; cases long <;> rfl
   | cons x l ih =>
    intro n long
    unfold decR
    rw [aEe, bY, show oA (n, long) x = (bif bQ x then (bif decide (n * 10 + dv x > 1099511627776) then .inl (0, true) else .inl (n * 10 + dv x, long)) else .inr (0, 10)) from rfl]
    cases hx : bQ x with
    | false => rfl
    | true =>
     simp only [aDc, Bool.true_and]
     unfold over valF
     cases hm : decide (n * 10 + dv x > 1099511627776) with
     | true =>
      simp only [aDc]
      rw [ih]; unfold decR
      simp
     | false =>
      simp only [aDd]
      rw [ih]; rfl
  have key := aW (body := number_read_uint64_b1 s 10 (fun x0 => number_ReadDec_1 x0)) s (fun i (c : Int × Bool) => (c.1, c.2, (i : Int))) oA xX (fun i c => 0 <= c.1 /\ c.1 <= 1099511627776) (fun i c x hx hi => ?_) (fun c hi => ?_) (0, false) ⟨by simp, by simp⟩
  ·rw [show ((IntKind.u64.wrap (0 : Int)), false, (0 : Int)) = ((0 : Int), false, ((0 : Nat) : Int)) from rfl, key, hf]; rfl
  ·have hlt := aP hx
   unfold number_read_uint64_b1 number_ReadDec_1
   dsimp only
   rw [aM hlt, aDc, aV hx, aD5, aD5, dig1]
   unfold oA
   cases hd : bQ x with
   | false => exact .inr ⟨_, rfl, rfl⟩
   | true =>
    have hdv := vH hd
    rw [dig2 hd, cN (show 0 <= c.1 * 10 by omega) (by omega), cN (show 0 <= c.1 * 10 + dv x by omega) (by omega), aL hlt hs]
    simp only [Bool.not_true, aDd, aDc]
    cases hm : decide (c.1 * 10 + dv x > 1099511627776) with
    | true => exact .inl ⟨(0, true), rfl, rfl, by simp, by simp⟩
    | false => exact .inl ⟨_, rfl, rfl, by show 0 <= c.1 * 10 + dv x; omega, by show c.1 * 10 + dv x <= _; simpa using hm⟩
  ·unfold number_read_uint64_b1 xX
   dsimp only
   rw [aO]
   cases c.2 <;> rfl
theorem m8 : ∀ (t : Bytes) (n : Int), 0 <= n -> n <= 1099511627776 -> t.all bQ = true -> over t n = false -> 0 <= valF t n /\ valF t n <= 1099511627776
 | [], n, h0, h1, _, _ => ⟨h0, h1⟩
 | x :: t, n, h0, h1, ha, ho => by
  rw [aEe, aD8] at ha
  have hd := vH ha.1
  unfold over at ho
  unfold valF
  cases hm : decide (n * 10 + dv x > 1099511627776) with
  | true => rw [hm] at ho; cases ho
  | false =>
   rw [hm, aDd] at ho
   exact m8 t _ (by omega) (by simpa using hm) ha.2 ho
theorem iI (s : Bytes) : (dec s).2 = 10 ∨ (dec s).2 = 2 ∨ ((dec s).2 = 0 /\ 0 <= (dec s).1 /\ (dec s).1 <= 1099511627776) := by
 unfold dec decR
 cases (s == ([] : Bytes)) with
 | true => exact .inl rfl
 | false =>
  cases ha : s.all bQ with
  | false => exact .inl rfl
  | true =>
   cases ho : over s 0 with
   | true => exact .inr (.inl rfl)
   | false => exact .inr (.inr ⟨rfl, m8 s 0 (by simp) (by simp) ha ho⟩)
theorem k22 : ((2 : Int) == 2) = true := rfl
theorem k210 : ((2 : Int) == 10) = false := rfl
theorem k02 : ((0 : Int) == 2) = false := rfl
theorem k010 : ((0 : Int) == 10) = false := rfl
def B (k n : Int) : S_Body := S_Body.mk k n
def sizeOf (s : Bytes) : Int := bif (dec s).2 == 2 then -1 else (dec s).1
def bR (c : Option Int) (s : Bytes) : Option Int ⊕ (S_Body × Int) :=
 bif (dec s).2 == 10 then .inr (B 0 0, 32) else match c with
  | none => .inl (some (sizeOf s))
  | some z => bif sizeOf s == z then .inl (some (sizeOf s)) else .inr (B 0 0, 32)
def d4 (none_ : S_Body) : Option Int -> S_Body × Int
 | none => (none_, 0)
 | some z => bif (bif decide (z < 0) then true else decide (z > 20000)) then (B 0 0, 2) else (B 1 z, 0)
def nTE : Bytes := [84, 114, 97, 110, 115, 102, 101, 114, 45, 69, 110, 99, 111, 100, 105, 110, 103]
def nCL : Bytes := [67, 111, 110, 116, 101, 110, 116, 45, 76, 101, 110, 103, 116, 104]
def nTE' : Bytes := [116, 114, 97, 110, 115, 102, 101, 114, 45, 101, 110, 99, 111, 100, 105, 110, 103]
def nCL' : Bytes := [99, 111, 110, 116, 101, 110, 116, 45, 108, 101, 110, 103, 116, 104]
def l0 : Bytes := [99, 104, 117, 110, 107, 101, 100]
theorem tH (l : List S_Field) {n m : Bytes} (h : bI n = bI m) : bH l n = bH l m := by
 unfold bH
 have : isN n = isN m := by funext f; unfold isN; rw [h]
 rw [this]
def sayB (minor : Int) (l : List S_Field) (none_ : S_Body) : S_Body × Int :=
 bif decide ((bH l nTE).length > 0) then
  bif decide ((bH l nCL).length > 0) || (minor == 0 || !(bI (Lib.join (bH l nTE) sep) == l0)) then (B 0 0, 32) else (B 2 0, 0)
 else aY bR (d4 none_) (bH l nCL) none
structure FRow (l : List S_Field) : Prop where
 len : l.length <= 100000
 each : ∀ f, f ∈ l -> f.Name.length <= 100000 /\ f.Value.length <= 100000
theorem FRow.small {l : List S_Field} (h : FRow l) : ∀ f, f ∈ l -> iH f := fun f hf => ⟨by have := (h.each f hf).1; unfold maxLen; omega, by have := (h.each f hf).2; unfold maxLen; omega⟩
theorem FRow.vals {l : List S_Field} (h : FRow l) (n : Bytes) : jV (bH l n) := by
 refine ⟨?_, fun s hs => ?_⟩
 ·unfold bH
  rw [List.length_map]
  have := List.length_filter_le (isN n) l
  have := h.len
  omega
 ·unfold bH at hs
  obtain ⟨f, hf, rfl⟩ := List.mem_map.1 hs
  exact (h.each f (List.mem_filter.1 hf).1).2
theorem big {n : Nat} (h : n <= 20000000000) : n <= maxLen := by unfold maxLen; omega
theorem gtz {α : Type} (l : List α) : decide (((l.length : Nat) : Int) > (0 : Int)) = decide (l.length > 0) := by simp <;> omega
theorem aAQ {minor : Int} {l : List S_Field} {none_ : S_Body} (h : FRow l) : frame_say minor l none_ = some (sayB minor l none_) := by
 unfold frame_say sayB
 have hl : l.length <= 1000000 := by have := h.len; omega
 have hte := h.vals nTE
 have hcl := h.vals nCL
 show Option.bind (table_All l nCL) _ = _
 rw [aAP (n := nCL) hl h.small (big (by decide)), aD5]
 have hJ : table_Joined l nTE = some (Lib.join (bH l nTE) sep, decide ((bH l nTE).length > 0)) := by
  unfold table_Joined
  rw [aAP hl h.small (big (by decide)), aD5, aBs hte, aD5, gtz]
 show Option.bind (table_Joined l nTE) _ = _
 rw [hJ, aD5]
 dsimp only
 cases decide ((bH l nTE).length > 0) with
 | true =>
  simp only [aDc]
  rw [aG (fun _ => xR (big (by have := hte.join; omega)) (big (by decide))), aD5, gtz]
  show _ = some (bif _ || (_ || !(bI (Lib.join (bH l nTE) sep) == bI [99, 104, 117, 110, 107, 101, 100])) then _ else _)
  cases decide ((bH l nCL).length > 0) <;> cases (minor == 0) <;> cases (bI (Lib.join (bH l nTE) sep) == bI [99, 104, 117, 110, 107, 101, 100]) <;> rfl
 | false =>
  simp only [aDd]
  generalize bH l nCL = cl at *
  let lf : Option Int -> Bool := fun c => match c with | none => false | some z => bif decide (z < 0) then true else decide (z > 20000)
  let ob : Option Int -> S_Body := fun c => match c with | none => none_ | some z => S_Body.mk 1 z
  refine aW cl (fun i c => (lf c, (i : Int), ob c)) bR (d4 none_) (fun i c => (i = 0 /\ c = none) ∨ (0 < i /\ ∃ z, c = some z)) (fun i c x hx hi => ?_) (fun c hi => ?_) none (.inl ⟨rfl, rfl⟩)
  ·have hlt := aP hx
   have hxl := hcl.each x (aEf hx)
   have hb : frame_say_b1 cl (lf c, (i : Int), ob c) = some (bif (dec x).2 == 10 then .inr (B 0 0, 32) else bif (bif decide ((i : Int) > 0) then !((1 == (ob c).Kind) && ((sizeOf x == (ob c).Size) && true)) else false) then .inr (B 0 0, 32) else .inl (lf (some (sizeOf x)), ((i + 1 : Nat) : Int), ob (some (sizeOf x)))) := by
    unfold frame_say_b1
    dsimp only
    rw [aM hlt, aDc, aV hx, aD5, jG (big (by omega)), aD5, aL hlt (big (by have := hcl.len; omega))]
    unfold sizeOf
    rcases iI x with hc | hc | ⟨hc, hc1, hc2⟩
    ·rw [hc]; rfl
    ·rw [hc]
     simp only [k22, k210, aDc, aDd]
     cases (bif decide ((i : Int) > 0) then (!((1 == (ob c).Kind) && (((-1 : Int) == (ob c).Size) && true))) else false) <;> rfl
    ·rw [hc, aC (by omega) (by omega)]
     simp only [k02, k010, aDc, aDd]
     cases (bif decide ((i : Int) > 0) then (!((1 == (ob c).Kind) && (((dec x).1 == (ob c).Size) && true))) else false) <;> rfl
   rw [hb]
   unfold bR
   cases (dec x).2 == 10 with
   | true => exact .inr ⟨_, rfl, rfl⟩
   | false =>
    rcases hi with ⟨rfl, rfl⟩ | ⟨hi, z, rfl⟩
    ·exact .inl ⟨_, rfl, rfl, .inr ⟨by omega, _, rfl⟩⟩
    ·rw [show decide ((i : Int) > 0) = true by simp; omega]
     dsimp only
     show (∃ b', (bif false then _ else bif sizeOf x == z then _ else _) = _ /\ some (bif false then _ else bif (bif true then !((1 == (1 : Int)) && ((sizeOf x == z) && true)) else false) then _ else _) = _ /\ _) ∨ _
     cases sizeOf x == z with
     | true => exact .inl ⟨_, rfl, rfl, .inr ⟨by omega, _, rfl⟩⟩
     | false => exact .inr ⟨_, rfl, rfl⟩
  ·unfold frame_say_b1
   dsimp only
   rw [aO, aDd]
   cases c with
   | none => rfl
   | some z =>
    show (bif (bif decide (z < 0) then true else decide (z > 20000)) then _ else _) = some (Sum.inr (bif (bif decide (z < 0) then true else decide (z > 20000)) then _ else _))
    cases (bif decide (z < 0) then true else decide (z > 20000)) <;> rfl
def f0 (minor : Int) (l : List S_Field) : S_Body × Int := bif decide ((bH l nTE).length > 0) || decide ((bH l nCL).length > 0) then sayB minor l (B 0 0) else (B (-1) 0, 0)
theorem iJ (none_ : S_Body) : ∀ (l : List Bytes) (z : Int), (aY bR (d4 none_) l (some z)).1.Kind ≥ 0 /\ aY bR (d4 none_) l (some z) = aY bR (d4 (B 0 0)) l (some z)
 | [], z => by
  refine ⟨?_, rfl⟩
  show (d4 none_ (some z)).1.Kind ≥ 0
  show (bif (bif decide (z < 0) then true else decide (z > 20000)) then ((B 0 0, 2) : S_Body × Int) else (B 1 z, 0)).1.Kind ≥ 0
  cases (bif decide (z < 0) then true else decide (z > 20000)) with
  | true => exact aEh 0
  | false => show (0 : Int) <= 1; decide
 | x :: l, z => by
  rw [bY, bY]
  have hs : bR (some z) x = (bif (dec x).2 == 10 then .inr (B 0 0, 32) else bif sizeOf x == z then .inl (some (sizeOf x)) else .inr (B 0 0, 32)) := rfl
  rw [hs]
  cases (dec x).2 == 10 with
  | true => exact ⟨aEh 0, rfl⟩
  | false =>
   cases sizeOf x == z with
   | true => exact iJ none_ l _
   | false => exact ⟨aEh 0, rfl⟩
theorem tI (none_ : S_Body) (x : Bytes) (l : List Bytes) : (aY bR (d4 none_) (x :: l) none).1.Kind ≥ 0 /\ aY bR (d4 none_) (x :: l) none = aY bR (d4 (B 0 0)) (x :: l) none := by
 rw [bY, bY]
 have hs : bR none x = (bif (dec x).2 == 10 then .inr (B 0 0, 32) else .inl (some (sizeOf x))) := rfl
 rw [hs]
 cases (dec x).2 == 10 with
 | true => exact ⟨aEh 0, rfl⟩
 | false => exact iJ none_ l _
theorem tJ (minor : Int) (l : List S_Field) (none_ : S_Body) : (bif decide ((f0 minor l).1.Kind < 0) then (none_, (f0 minor l).2) else f0 minor l) = sayB minor l none_ := by
 unfold f0 sayB
 cases decide ((bH l nTE).length > 0) with
 | true =>
  simp only [Bool.true_or, aDc]
  cases (decide ((bH l nCL).length > 0) || (minor == 0 || !(bI (Lib.join (bH l nTE) sep) == l0))) <;> rfl
 | false =>
  simp only [Bool.false_or, aDd]
  cases bH l nCL with
  | nil => rfl
  | cons x r =>
   rw [show decide ((x :: r).length > 0) = true by simp, aDc]
   obtain ⟨h1, h2⟩ := tI (B 0 0) x r
   rw [show decide ((aY bR (d4 (B 0 0)) (x :: r) none).1.Kind < 0) = false by simp; omega, aDd]
   exact (tI none_ x r).2.symm
def reqB (s : S_Start) (l : List S_Field) : S_Body × Int := bif (!aS s) || (s.Code != 0 || !dZ l) then (B 0 0, 1) else sayB s.Minor l (B 0 0)
def ansB (s : S_Start) (l : List S_Field) (m : Bytes) : S_Body × Int :=
 bif (!aS s) || (s.Code == 0 || !dZ l) then (B 0 0, 1) else
 bif (decide (s.Code < 200) || (s.Code == 204 || (s.Code == 304 || m == ([72, 69, 65, 68] : Bytes)))) then (B 0 0, 0) else sayB s.Minor l (B 3 0)
theorem vI {s : S_Start} {l : List S_Field} (hs : d3 s) (h : FRow l) : frame_Request s l = some (reqB s l) := by
 unfold frame_Request reqB
 rw [fZ hs, aD5, aG (fun _ => n9 (big (by have := h.len; omega)) h.small), aD5, aAQ h, aD5]
 cases aS s <;> cases (s.Code != 0) <;> cases dZ l <;> rfl
theorem xY {s : S_Start} {l : List S_Field} {m : Bytes} (hs : d3 s) (h : FRow l) : frame_Answer s l m = some (ansB s l m) := by
 unfold frame_Answer ansB
 rw [fZ hs, aD5, aG (fun _ => n9 (big (by have := h.len; omega)) h.small), aD5, aAQ h, aD5]
 cases aS s <;> cases (s.Code == 0) <;> cases dZ l <;> cases decide (s.Code < 200) <;> cases (s.Code == 204) <;> cases (s.Code == 304) <;> cases (m == ([72, 69, 65, 68] : Bytes)) <;> rfl
theorem xZ {α : Type} (l : List α) (k : Nat) {K : Int} (hK : K = (k : Int)) : slc l 0 (imin (l.length : Int) K) = some (l.take k) := by
 subst hK
 unfold slc imin
 by_cases h : (k : Int) < (l.length : Int)
 ·rw [if_pos h, aB (by omega)]; simp
 ·rw [if_neg h, aB (by omega)]
  simp only [Int.toNat_zero, List.drop_zero, aEa, Nat.sub_zero]
  rw [List.take_length, aD9 (by omega)]
def addB (l : List S_Field) (f : S_Field) : List S_Field × Int := bif (!dZ l) || !mayB f then ([], 1) else bif l.length == 40 then ([], 4) else (l ++ [f], 0)
def rest (l : List S_Field) : List S_Field := (l.filter fun f => !isN nCL' f).filter fun f => !isN nTE' f
theorem FRow.filter {l : List S_Field} (h : FRow l) (p : S_Field -> Bool) : FRow (l.filter p) := ⟨by have := List.length_filter_le p l; have := h.len; omega, fun f hf => h.each f (List.mem_filter.1 hf).1⟩
theorem aAl {l : List S_Field} {f : S_Field} (h : FRow l) (h1 : l.length <= 50000) (hf : f.Name.length <= 100000 /\ f.Value.length <= 100000) : FRow (addB l f).1 := by
 unfold addB
 cases ((!dZ l) || !mayB f) with
 | true => exact ⟨by simp, by simp⟩
 | false =>
  cases (l.length == 40) with
  | true => exact ⟨by simp, by simp⟩
  | false =>
   refine ⟨by simp; omega, fun g hg => ?_⟩
   rcases List.mem_append.1 hg with hg | hg
   ·exact h.each g hg
   ·rw [List.mem_singleton] at hg; subst hg; exact hf
theorem aBt (k : Nat) (h : k < 10) : slc ([48, 49, 50, 51, 52, 53, 54, 55, 56, 57, 97, 98, 99, 100, 101, 102] : Bytes) (k : Int) (IntKind.u64.wrap ((k : Int) + (1 : Int))) = some [UInt8.ofNat (48 + k)] := by
 have : k = 0 ∨ k = 1 ∨ k = 2 ∨ k = 3 ∨ k = 4 ∨ k = 5 ∨ k = 6 ∨ k = 7 ∨ k = 8 ∨ k = 9 := by omega
 rcases this with rfl | rfl | rfl | rfl | rfl | rfl | rfl | rfl | rfl | rfl <;> rfl
def digV (x : Int × Bytes) : Bytes := bif (bif decide (x.1 > 0) then true else (x.2 == ([] : Bytes))) then Lib.decDigits x.1.toNat ++ x.2 else x.2
theorem yA {l : List S_Field} {n v : Bytes} (h : FRow l) (hf : iH (S_Field.mk n v)) : table_Add l n v = some (addB l (S_Field.mk n v)) := by
 unfold table_Add addB
 have hl := h.len
 rw [n9 (big (by omega)) h.small, aD5, aG (fun _ => aAO hf), aD5]
 have e : decide ((l.length : Int) ≥ (40 : Int)) = decide (l.length ≥ 40) := by simp; omega
 have hc : slices_Clip__api_Field_api_Field l = some l := by
  unfold slices_Clip__api_Field_api_Field slc
  rw [aB (by omega)]
  simp
 rw [e, hc, aD5, m7 (by simp; omega) (by omega), aD5]
 unfold dZ
 cases hr : (decide (l.length <= 40) && l.all mayB) <;> cases mayB (S_Field.mk n v)
 ·rfl
 ·rfl
 ·rfl
 ·have : l.length <= 40 := by simp at hr; exact hr.1
  have e2 : decide (l.length ≥ 40) = (l.length == 40) := by rw [aEc, beq_iff_eq, decide_eq_true_eq]; omega
  rw [e2]
  cases (l.length == 40) <;> rfl
theorem yB {l : List S_Field} (hl : l.length <= maxLen) : intarsiaref04_Like l l = some true := by
 unfold intarsiaref04_Like
 have hf : ∀ m : List S_Field, aY (β := Unit) (ρ := Bool) (fun _ _ => .inl ()) (fun _ => true) m () = true := by
  intro m
  induction m with
  | nil => rfl
  | cons x m ih => exact ih
 have key := aW (body := intarsiaref04_Like_b1 l l) l (fun i (_ : Unit) => (i : Int)) (fun _ _ => .inl ()) (fun _ => true) (fun _ _ => True) (fun i b x hx hi => ?_) (fun b hi => ?_) () trivial
 ·rw [show ((l.length : Int) != (l.length : Int)) = false by simp, aDd]
  exact key.trans (by rw [hf])
 ·have hlt := aP hx
  refine .inl ⟨(), rfl, ?_, trivial⟩
  unfold intarsiaref04_Like_b1
  rw [aM hlt, aDc, aV hx, aD5, aD5, aL hlt hl]
  simp
 ·unfold intarsiaref04_Like_b1
  rw [aO]; rfl
theorem eS (k : Nat) (h : k < 10) : bQ (UInt8.ofNat (48 + k)) = true /\ dv (UInt8.ofNat (48 + k)) = k := by
 have : k = 0 ∨ k = 1 ∨ k = 2 ∨ k = 3 ∨ k = 4 ∨ k = 5 ∨ k = 6 ∨ k = 7 ∨ k = 8 ∨ k = 9 := by omega
 rcases this with rfl | rfl | rfl | rfl | rfl | rfl | rfl | rfl | rfl | rfl <;> exact ⟨rfl, rfl⟩
theorem jH {P : Nat -> Prop} (h0 : ∀ n, n < 10 -> P n) (h1 : ∀ n, ¬ n < 10 -> P (n / 10) -> P n) (n : Nat) : P n := by
 induction n using Nat.strongRecOn with
 | ind n ih =>
  by_cases h : n < 10
  ·exact h0 n h
  ·exact h1 n h (ih (n / 10) (by omega))
theorem aX {n : Nat} (h : n < 10) : Lib.decDigits n = [UInt8.ofNat (48 + n)] := Lib.decDigits_one h
theorem cA {n : Nat} (h : ¬ n < 10) : Lib.decDigits n = Lib.decDigits (n / 10) ++ [UInt8.ofNat (48 + n % 10)] := by rw [Lib.decDigits, dif_neg h]
theorem m9 (n : Nat) : (Lib.decDigits n).all bQ = true := by
 refine jH (P := fun n => (Lib.decDigits n).all bQ = true) (fun n h => ?_) (fun n h ih => ?_) n
 ·rw [aX h, aEe, (eS n h).1]; rfl
 ·rw [cA h, List.all_append, ih, aEe, (eS (n % 10) (by omega)).1]; rfl
theorem yC (n : Nat) : (Lib.decDigits n == ([] : Bytes)) = false := by
 by_cases h : n < 10
 ·rw [aX h]; rfl
 ·rw [cA h]
  cases Lib.decDigits (n / 10) <;> rfl
theorem l1 : ∀ (s t : Bytes) (z : Int), valF (s ++ t) z = valF t (valF s z)
 | [], _, _ => rfl
 | x :: s, t, z => l1 s t _
theorem nA (n : Nat) : valF (Lib.decDigits n) 0 = n := by
 refine jH (P := fun n => valF (Lib.decDigits n) 0 = n) (fun n h => ?_) (fun n h ih => ?_) n
 ·rw [aX h]
  show (0 : Int) * 10 + dv _ = _
  rw [(eS n h).2]; omega
 ·rw [cA h, l1, ih]
  show ((n / 10 : Nat) : Int) * 10 + dv _ = _
  rw [(eS (n % 10) (by omega)).2]; omega
theorem l2 : ∀ (s t : Bytes) (z : Int), over s z = false -> over (s ++ t) z = over t (valF s z)
 | [], _, _, _ => rfl
 | x :: s, t, z, h => by
  unfold over at h
  cases hd : decide (z * 10 + dv x > 1099511627776) with
  | true => rw [hd] at h; cases h
  | false =>
   rw [hd] at h
   show (bif decide (z * 10 + dv x > 1099511627776) then true else over (s ++ t) (z * 10 + dv x)) = _
   rw [hd]
   exact l2 s t _ h
theorem rZ (n : Nat) (h : n <= 1099511627776) : over (Lib.decDigits n) 0 = false := by
 revert h
 refine jH (P := fun n => n <= 1099511627776 -> over (Lib.decDigits n) 0 = false) (fun n h _ => ?_) (fun n h ih hn => ?_) n
 ·rw [aX h]
  show (bif decide ((0 : Int) * 10 + dv _ > 1099511627776) then true else false) = false
  rw [(eS n h).2, show decide ((0 : Int) * 10 + (n : Int) > 1099511627776) = false by simp; omega]; rfl
 ·rw [cA h, l2 _ _ _ (ih (by omega)), nA]
  show (bif decide (((n / 10 : Nat) : Int) * 10 + dv _ > 1099511627776) then true else false) = false
  rw [(eS (n % 10) (by omega)).2, show decide (((n / 10 : Nat) : Int) * 10 + ((n % 10 : Nat) : Int) > 1099511627776) = false by simp; omega]; rfl
theorem vJ {n : Nat} (h : n <= 1099511627776) : dec (Lib.decDigits n) = ((n : Int), 0) := by
 unfold dec decR
 rw [yC, m9, rZ n h, nA]
 rfl
def noSp (s : Bytes) : Bool := !(s.contains 32)
theorem iK {x : UInt8} {s : Bytes} (h : noSp (x :: s) = true) : (x = 32 -> False) /\ noSp s = true := by
 unfold noSp at h ⊢
 rw [aEb] at h
 simp at h ⊢
 exact ⟨fun e => h.1 e.symm, h.2⟩
theorem tK : ∀ {s : Bytes}, noSp s = true -> Lib.index s [32] = -1
 | [], _ => by simp [Lib.index]
 | x :: s, h => by
  obtain ⟨h1, h2⟩ := iK h
  have hp : ([32] : Bytes).isPrefixOf (x :: s) = false := by simp [aEj]; exact fun e => h1 e.symm
  rw [Lib.index, hp, tK h2]; rfl
theorem oB : ∀ {a : Bytes} (t : Bytes), noSp a = true -> Lib.index (a ++ 32 :: t) [32] = (a.length : Int)
 | [], t, _ => by rw [List.nil_append, Lib.index]; simp [aEj]
 | x :: a, t, h => by
  obtain ⟨h1, h2⟩ := iK h
  have hp : ([32] : Bytes).isPrefixOf (x :: (a ++ 32 :: t)) = false := by simp [aEj]; exact fun e => h1 e.symm
  rw [List.cons_append, Lib.index, hp, oB t h2]
  have : ((a.length : Int) == -1) = false := by simp
  simp [this]
theorem iL {k : Nat} {s : Bytes} (h : noSp s = true) : Lib.splitK [32] 0 k s = [s] := by
 cases k with
 | zero => rfl
 | succ k => unfold Lib.splitK; rw [tK h]; rfl
theorem f5 {k : Nat} {a t : Bytes} (h : noSp a = true) : Lib.splitK [32] 0 (k + 1) (a ++ 32 :: t) = a :: Lib.splitK [32] 0 k t := by
 conv => lhs; unfold Lib.splitK
 rw [oB t h]
 have : ((a.length : Int) == -1) = false := by simp
 rw [this]
 simp
theorem aAm {a : Bytes} (t : Bytes) (h : noSp a = true) : Lib.count (a ++ 32 :: t) [32] = Lib.count t [32] + 1 := by
 rw [Lib.count_hit (by simp) (oB t h)]
 simp [Nat.add_comm]
theorem kK {s : Bytes} (h : noSp s = true) : Lib.split s [32] = [s] := iL h
theorem iM {a : Bytes} (t : Bytes) (h : noSp a = true) : Lib.split (a ++ 32 :: t) [32] = a :: Lib.split t [32] := by
 unfold Lib.split
 rw [aAm t h, f5 h]
theorem yD (s : Bytes) : ∃ x l, Lib.split s [32] = x :: l := by
 unfold Lib.split
 cases Lib.count s [32] with
 | zero => exact ⟨_, _, rfl⟩
 | succ k =>
  unfold Lib.splitK
  split
  ·exact ⟨_, _, rfl⟩
  ·exact ⟨_, _, rfl⟩
def dH : S_Start := S_Start.mk [] [] 0 [] 0
def ver (n : Nat) : Bytes := [72, 84, 84, 80, 47, 49, 46] ++ Lib.decDigits n
def bX (v : Bytes) : Int := bif v == ver 0 then 0 else bif v == ver 1 then 1 else 2
theorem oC (v : Bytes) : start_minor v = some (bX v) := by
 unfold start_minor bX
 rw [show ver 0 = [72, 84, 84, 80, 47, 49, 46, 48] by unfold ver; rw [aX (by omega)]; rfl, show ver 1 = [72, 84, 84, 80, 47, 49, 46, 49] by unfold ver; rw [aX (by omega)]; rfl]
 cases (v == ([72, 84, 84, 80, 47, 49, 46, 48] : Bytes)) <;> cases (v == ([72, 84, 84, 80, 47, 49, 46, 49] : Bytes)) <;> rfl
def okS (s : S_Start) : S_Start × Int := bif aS s then (s, 0) else (dH, 30)
def parseW : List Bytes -> S_Start × Int
 | [a, b, v] => okS (S_Start.mk a b 0 [] (bX v))
 | _ => (dH, 30)
def bT (l : Bytes) : S_Start × Int := parseW (Lib.split l [32])
def bJ (v c r : Bytes) : S_Start × Int :=
 bif c.length == 3 && ((dec c).2 == 0 && !((dec c).1 == 0)) then okS (S_Start.mk [] [] (dec c).1 r (bX v)) else (dH, 30)
def aBu : List Bytes -> S_Start × Int
 | [v, c] => bJ v c []
 | [v, c, r] => bJ v c r
 | _ => (dH, 30)
def aU (l : Bytes) : S_Start × Int := aBu (Lib.splitN l [32] 3)
theorem l3 {s : Bytes} : ∀ x, x ∈ Lib.split s [32] -> x.length <= s.length := by
 have key : ∀ (k : Nat) (s x : Bytes), x ∈ Lib.splitK [32] 0 k s -> x.length <= s.length := by
  intro k
  induction k with
  | zero => intro s x h; simp [Lib.splitK] at h; subst h; exact aD6 _
  | succ k ih =>
   intro s x h
   unfold Lib.splitK at h
   split at h
   ·simp at h; subst h; exact aD6 _
   ·rcases List.mem_cons.1 h with rfl | h
    ·rw [List.length_take]; omega
    ·have := ih _ x h
     rw [List.length_drop] at this
     omega
 exact key _ s
theorem jW {s : Bytes} {n : Nat} : ∀ x, x ∈ Lib.splitN s [32] n -> x.length <= s.length := by
 have key : ∀ (k : Nat) (s x : Bytes), x ∈ Lib.splitK [32] 0 k s -> x.length <= s.length := by
  intro k
  induction k with
  | zero => intro s x h; simp [Lib.splitK] at h; subst h; exact aD6 _
  | succ k ih =>
   intro s x h
   unfold Lib.splitK at h
   split at h
   ·simp at h; subst h; exact aD6 _
   ·rcases List.mem_cons.1 h with rfl | h
    ·rw [List.length_take]; omega
    ·have := ih _ x h
     rw [List.length_drop] at this
     omega
 exact key _ s
theorem sm {n : Nat} (h : n <= 1000000) : n <= maxLen := by unfold maxLen; omega
theorem idx0 {α : Type} (a : α) (l : List α) : idx (a :: l) (0 : Int) = some a := aV (i := 0) rfl
theorem idx1 {α : Type} (a b : α) (l : List α) : idx (a :: b :: l) (1 : Int) = some b := aV (i := 1) rfl
theorem idx2 {α : Type} (a b c : α) (l : List α) : idx (a :: b :: c :: l) (2 : Int) = some c := aV (i := 2) rfl
theorem oD {l : Bytes} (hl : l.length <= 1000000) : start_Parse l = some (bT l) := by
 unfold start_Parse strings_Split bT
 rw [aB ⟨aD6 _, by omega⟩, aD5]
 have hs := l3 (s := l)
 generalize Lib.split l [32] = w at hs
 match w, hs with
 | [], _ => rfl
 | [_], _ => rfl
 | [_, _], _ => rfl
 | [a, b, v], hs =>
  have h1 := hs a (by simp)
  have h2 := hs b (by simp)
  rw [idx0, idx1, idx2]
  simp only [aD5]
  rw [oC, aD5, fZ ⟨sm (by show a.length <= _; omega), sm (by show b.length <= _; omega), sm (aD7 _)⟩, aD5]
  show (bif (((([a, b, v] : List Bytes).length : Nat) : Int) != 3) then _ else _) = some (okS _)
  rw [show (((([a, b, v] : List Bytes).length : Nat) : Int) != 3) = false from rfl, aDd]
  unfold okS
  cases aS (S_Start.mk a b 0 [] (bX v)) <;> rfl
 | a :: b :: c :: d :: r, _ =>
  have : (((a :: b :: c :: d :: r).length : Int) != 3) = true := by simp; omega
  rw [this]; rfl
theorem oE (s : Bytes) : 0 <= (dec s).1 /\ (dec s).1 <= 1099511627776 := by
 have : (dec s).1 = 0 ∨ (0 <= (dec s).1 /\ (dec s).1 <= 1099511627776) := by
  rcases iI s with h | h | h
  ·unfold dec decR at h ⊢
   revert h
   cases (s == ([] : Bytes)) with
   | true => intro _; exact .inl rfl
   | false =>
    cases s.all bQ with
    | false => intro _; exact .inl rfl
    | true =>
     cases over s 0 with
     | true => intro _; exact .inl rfl
     | false => intro h; exact absurd (show (0 : Int) = 10 from h) (by omega)
  ·unfold dec decR at h ⊢
   revert h
   cases (s == ([] : Bytes)) with
   | true => intro _; exact .inl rfl
   | false =>
    cases s.all bQ with
    | false => intro _; exact .inl rfl
    | true =>
     cases over s 0 with
     | true => intro _; exact .inl rfl
     | false => intro h; exact absurd (show (0 : Int) = 2 from h) (by omega)
  ·exact .inr h.2
 omega
theorem yE {s : Bytes} (h : 2 <= s.length) : Lib.splitN s [32] 3 = Lib.splitK [32] 0 2 s := by
 unfold Lib.splitN
 rw [show min 3 (s.length + 1) - 1 = 2 by omega]
theorem p6 : ∀ (k : Nat) (s : Bytes), (Lib.splitK [32] 0 k s).length <= k + 1
 | 0, s => by simp [Lib.splitK]
 | k + 1, s => by
  unfold Lib.splitK
  split
  ·simp
  ·rw [aEi]; have := p6 k (s.drop ((Lib.index s [32]).toNat + ([32] : Bytes).length)); omega
theorem yF (s : Bytes) : (Lib.splitN s [32] 3).length <= 3 := by
 unfold Lib.splitN
 have := p6 (min 3 (s.length + 1) - 1) s
 omega
theorem p7 {l : Bytes} (hl : l.length <= 1000000) : start_Status l = some (aU l) := by
 unfold start_Status strings_SplitN aU
 rw [aB ⟨by omega, by omega, aD6 _, by omega⟩, aD5]
 have hs := jW (s := l) (n := 3)
 have h3 := yF l
 rw [show (3 : Int).toNat = 3 from rfl]
 generalize Lib.splitN l [32] 3 = w at hs h3
 match w, hs, h3 with
 | [], _, _ => rfl
 | [_], _, _ => rfl
 | [v, c], hs, _ =>
  have h2 := hs c (by simp)
  have hd := oE c
  rw [show gidx (!(decide (((([v, c] : List Bytes).length : Nat) : Int) < 2))) [v, c] 1 = some c from idx1 v c [], idx1, idx0]
  simp only [aD5]
  rw [jG (sm (by omega)), aD5, oC, aD5, aC (by omega) (by omega)]
  rw [aG (fun _ => fZ ⟨sm (aD7 _), sm (aD7 _), sm (aD7 _)⟩), aD5]
  show _ = some (bJ v c [])
  unfold bJ okS
  rw [show decide (((([v, c] : List Bytes).length : Nat) : Int) < 2) = false from rfl, show (((([v, c] : List Bytes).length : Nat) : Int) == 3) = false from rfl]
  have e : ((c.length : Int) != 3) = !(c.length == 3) := by rw [aEc]; simp; omega
  rw [e]
  have e2 : ((dec c).2 != 0) = !((dec c).2 == 0) := rfl
  rw [e2]
  cases (c.length == 3) <;> cases ((dec c).2 == 0) <;> cases ((dec c).1 == 0) <;> cases aS (S_Start.mk [] [] (dec c).1 [] (bX v)) <;> rfl
 | [v, c, r], hs, _ =>
  have h2 := hs c (by simp)
  have h3 := hs r (by simp)
  have hd := oE c
  rw [show gidx (!(decide (((([v, c, r] : List Bytes).length : Nat) : Int) < 2))) [v, c, r] 1 = some c from idx1 v c [r], idx1, idx0, idx2]
  simp only [aD5]
  rw [jG (sm (by omega)), aD5, oC, aD5, aC (by omega) (by omega)]
  rw [aG (fun _ => fZ (s := S_Start.mk [] [] (dec c).1 r (bX v)) ⟨sm (aD7 _), sm (aD7 _), sm (by show r.length <= _; omega)⟩), aD5]
  show _ = some (bJ v c r)
  unfold bJ okS
  rw [show decide (((([v, c, r] : List Bytes).length : Nat) : Int) < 2) = false from rfl, show (((([v, c, r] : List Bytes).length : Nat) : Int) == 3) = true from rfl]
  have e : ((c.length : Int) != 3) = !(c.length == 3) := by rw [aEc]; simp; omega
  rw [e]
  have e2 : ((dec c).2 != 0) = !((dec c).2 == 0) := rfl
  rw [e2]
  cases (c.length == 3) <;> cases ((dec c).2 == 0) <;> cases ((dec c).1 == 0) <;> cases aS (S_Start.mk [] [] (dec c).1 r (bX v)) <;> rfl
 | a :: b :: c :: d :: r, _, h3 => simp at h3
def dD (s : S_Start) : Bytes :=
 bif s.Code == 0 then s.Method ++ 32 :: (s.Target ++ 32 :: ver s.Minor.toNat) else ver s.Minor.toNat ++ 32 :: (Lib.decDigits s.Code.toNat ++ 32 :: s.Reason)
structure SSm (s : S_Start) : Prop where
 method : s.Method.length <= 1000000
 target : s.Target.length <= 1000000
 reason : s.Reason.length <= 1000000
theorem SSm.small {s : S_Start} (h : SSm s) : d3 s := ⟨sm h.method, sm h.target, sm h.reason⟩
theorem dE {s : S_Start} (h : aS s = true) : s.Minor = 0 ∨ s.Minor = 1 := by
 unfold aS at h
 rw [aD8, Bool.or_eq_true] at h
 rcases h.1 with h | h
 ·exact .inl (eq_of_beq h)
 ·exact .inr (eq_of_beq h)
theorem l4 {s : S_Start} (h : aS s = true) : s.Code = 0 ∨ (100 <= s.Code /\ s.Code <= 599) := by
 unfold aS at h
 rw [aD8] at h
 have h2 := h.2
 cases hc : (s.Code == 0) with
 | true => exact .inl (eq_of_beq hc)
 | false =>
  rw [hc, aDd, aD8, aD8] at h2
  exact .inr ⟨of_decide_eq_true h2.1.1, of_decide_eq_true h2.1.2⟩
theorem p8 {m : Int} (h : m = 0 ∨ m = 1) : ver m.toNat = [72, 84, 84, 80, 47, 49, 46, 48] ∨ ver m.toNat = [72, 84, 84, 80, 47, 49, 46, 49] := by
 unfold ver
 rcases h with rfl | rfl
 ·left; rw [show (0 : Int).toNat = 0 from rfl, aX (by omega)]; rfl
 ·right; rw [show (1 : Int).toNat = 1 from rfl, aX (by omega)]; rfl
theorem aBv {m : Int} (h : m = 0 ∨ m = 1) : (ver m.toNat).length = 8 := by rcases p8 h with e | e <;> rw [e] <;> rfl
theorem aAn {m : Int} (h : m = 0 ∨ m = 1) : bX (ver m.toNat) = m := by
 unfold bX
 have e0 : ver 0 = [72, 84, 84, 80, 47, 49, 46, 48] := by unfold ver; rw [aX (by omega)]; rfl
 have e1 : ver 1 = [72, 84, 84, 80, 47, 49, 46, 49] := by unfold ver; rw [aX (by omega)]; rfl
 rcases h with rfl | rfl
 ·rw [show (0 : Int).toNat = 0 from rfl, e0, e1]; rfl
 ·rw [show (1 : Int).toNat = 1 from rfl, e0, e1]; rfl
theorem nB {n : Nat} (h : n < 1000) : (Lib.decDigits n).length <= 3 := by
 by_cases h1 : n < 10
 ·rw [aX h1]; simp
 rw [cA h1]
 by_cases h2 : n / 10 < 10
 ·rw [aX h2]; simp
 rw [cA h2, aX (by omega)]; simp
theorem r4 {n : Nat} (h0 : 100 <= n) (h : n < 1000) : (Lib.decDigits n).length = 3 := by
 rw [cA (by omega), cA (by omega), aX (by omega)]; rfl
theorem r5 {p : UInt8 -> Bool} {s : Bytes} (hp : p 32 = false) (h : s.all p = true) : noSp s = true := by
 unfold noSp
 cases hc : s.contains 32 with
 | false => rfl
 | true =>
  have := List.contains_iff_mem.1 hc
  rw [List.all_eq_true] at h
  rw [h _ this] at hp; cases hp
theorem vK {s : Bytes} (h : cW s = true) : noSp s = true := by
 unfold cW at h
 rw [aD8] at h
 exact r5 (p := gL) rfl h.2
theorem r6 {s : Bytes} (h : fH s = true) : noSp s = true := by
 unfold fH at h
 rw [Bool.or_eq_true, aD8, aD8] at h
 rcases h with h | h
 ·rw [eq_of_beq h]; rfl
 ·refine r5 (p := fun b => !badU b) (by decide) ?_
  have := h.2.2
  rw [<- List.not_any_eq_all_not]; exact this
theorem oF {m : Int} (h : m = 0 ∨ m = 1) : noSp (ver m.toNat) = true := by rcases p8 h with e | e <;> rw [e] <;> rfl
theorem r7 (n : Nat) : noSp (Lib.decDigits n) = true := r5 (p := bQ) rfl (m9 n)
theorem r8 {s : Bytes} (h : cW s = true) : bX s = 2 := by
 unfold bX
 have e0 : ver 0 = [72, 84, 84, 80, 47, 49, 46, 48] := by unfold ver; rw [aX (by omega)]; rfl
 have e1 : ver 1 = [72, 84, 84, 80, 47, 49, 46, 49] := by unfold ver; rw [aX (by omega)]; rfl
 rw [e0, e1]
 cases h0 : (s == ([72, 84, 84, 80, 47, 49, 46, 48] : Bytes)) with
 | true => rw [eq_of_beq h0] at h; exact absurd h (by decide)
 | false =>
  cases h1 : (s == ([72, 84, 84, 80, 47, 49, 46, 49] : Bytes)) with
  | true => rw [eq_of_beq h1] at h; exact absurd h (by decide)
  | false => rfl
theorem jI {s : S_Start} (h : s.Minor = 2) : okS s = (dH, 30) := by
 unfold okS aS
 rw [h]; rfl
theorem p9 {v c r : Bytes} (h : bX v = 2) : bJ v c r = (dH, 30) := by
 unfold bJ
 rw [h]
 cases (c.length == 3 && ((dec c).2 == 0 && !((dec c).1 == 0))) with
 | true => exact jI (s := S_Start.mk [] [] (dec c).1 r 2) rfl
 | false => rfl
theorem nC {a b t : Bytes} (ha : noSp a = true) (hb : noSp b = true) : Lib.splitN (a ++ 32 :: (b ++ 32 :: t)) [32] 3 = [a, b, t] := by
 rw [yE (by simp; omega), f5 ha, f5 hb]; rfl
theorem vL {a b : Bytes} (ha : noSp a = true) (hb : noSp b = true) (hn : b ≠ []) : Lib.splitN (a ++ 32 :: b) [32] 3 = [a, b] := by
 rw [yE (by cases b with | nil => exact absurd rfl hn | cons x l => simp; omega), f5 ha, iL hb]
theorem print0 {s : S_Start} (h : aS s = true) (h0 : s.Code = 0) : bT (dD s) = (s, 0) /\ aU (dD s) = (dH, 30) := by
 have hm := dE h
 have h' := h
 unfold aS at h'
 rw [aD8, h0, show ((0 : Int) == 0) = true from rfl, aDc, aD8, aD8, aD8] at h'
 have hr := eq_of_beq h'.2.1
 have ht := vK h'.2.2.1
 have hg := r6 h'.2.2.2.2
 have hp : dD s = s.Method ++ 32 :: (s.Target ++ 32 :: ver s.Minor.toNat) := by unfold dD; rw [h0]; rfl
 rw [hp]
 unfold bT aU
 rw [iM _ ht, iM _ hg, kK (oF hm), nC ht hg]
 constructor
 ·show okS (S_Start.mk s.Method s.Target 0 [] (bX (ver s.Minor.toNat))) = _
  rw [aAn hm]
  have : S_Start.mk s.Method s.Target 0 [] s.Minor = s := by rw [<- hr, <- h0]
  rw [this]; unfold okS; rw [h]; rfl
 ·exact p9 (r8 h'.2.2.1)
theorem qA (s : S_Start) : (aS s = true /\ okS s = (s, 0)) ∨ okS s = (dH, 30) := by
 unfold okS
 cases h : aS s with
 | true => exact .inl ⟨rfl, rfl⟩
 | false => exact .inr rfl
theorem l5 (l : Bytes) : (∃ s, bT l = (s, 0) /\ aS s = true /\ s.Code = 0 /\ s.Method.length <= l.length /\ s.Target.length <= l.length /\ s.Reason = []) ∨ bT l = (dH, 30) := by
 unfold bT
 have hs := l3 (s := l)
 generalize Lib.split l [32] = w at hs
 match w, hs with
 | [], _ => exact .inr rfl
 | [_], _ => exact .inr rfl
 | [_, _], _ => exact .inr rfl
 | [a, b, v], hs =>
  rcases qA (S_Start.mk a b 0 [] (bX v)) with ⟨h1, h2⟩ | h
  ·exact .inl ⟨_, h2, h1, rfl, hs a (by simp), hs b (by simp), rfl⟩
  ·exact .inr h
 | _ :: _ :: _ :: _ :: _, _ => exact .inr rfl
theorem gO (v c r : Bytes) : (∃ s, bJ v c r = (s, 0) /\ aS s = true /\ s.Code ≠ 0 /\ s.Method = [] /\ s.Target = [] /\ s.Reason = r) ∨ bJ v c r = (dH, 30) := by
 unfold bJ
 cases hb : (c.length == 3 && ((dec c).2 == 0 && !((dec c).1 == 0))) with
 | false => exact .inr rfl
 | true =>
  rw [aD8, aD8] at hb
  have hne : (dec c).1 ≠ 0 := by have := hb.2.2; simpa using this
  rcases qA (S_Start.mk [] [] (dec c).1 r (bX v)) with ⟨h1, h2⟩ | h
  ·exact .inl ⟨_, h2, h1, hne, rfl, rfl, rfl⟩
  ·exact .inr h
theorem jX (l : Bytes) : (∃ s, aU l = (s, 0) /\ aS s = true /\ s.Code ≠ 0 /\ s.Method = [] /\ s.Target = [] /\ s.Reason.length <= l.length) ∨ aU l = (dH, 30) := by
 unfold aU
 have hs := jW (s := l) (n := 3)
 generalize Lib.splitN l [32] 3 = w at hs
 match w, hs with
 | [], _ => exact .inr rfl
 | [_], _ => exact .inr rfl
 | [v, c], _ =>
  rcases gO v c [] with ⟨s, h1, h2, h3, h4, h5, h6⟩ | h
  ·exact .inl ⟨s, h1, h2, h3, h4, h5, by rw [h6]; exact aD7 _⟩
  ·exact .inr h
 | [v, c, r], hs =>
  rcases gO v c r with ⟨s, h1, h2, h3, h4, h5, h6⟩ | h
  ·exact .inl ⟨s, h1, h2, h3, h4, h5, by rw [h6]; exact hs r (by simp)⟩
  ·exact .inr h
 | _ :: _ :: _ :: _ :: _, _ => exact .inr rfl
theorem fI : ∀ (s : Bytes), noSp s = true ∨ ∃ a t, s = a ++ 32 :: t /\ noSp a = true
 | [] => .inl rfl
 | x :: s => by
  by_cases hx : x = 32
  ·subst hx; exact .inr ⟨[], s, rfl, rfl⟩
  ·have hc : ∀ (a : Bytes), noSp a = true -> noSp (x :: a) = true := fun a ha => by
    unfold noSp at ha ⊢
    rw [aEb]
    have : ((32 : UInt8) == x) = false := by simpa using fun e => hx e.symm
    rw [this]; exact ha
   rcases fI s with h | ⟨a, t, rfl, h⟩
   ·exact .inl (hc _ h)
   ·exact .inr ⟨x :: a, t, rfl, hc _ h⟩
theorem jY (v : Bytes) : (bX v = 0 /\ v = ver 0) ∨ (bX v = 1 /\ v = ver 1) ∨ (bX v = 2 /\ v ≠ ver 0 /\ v ≠ ver 1) := by
 unfold bX
 cases h0 : (v == ver 0) with
 | true => exact .inl ⟨rfl, eq_of_beq h0⟩
 | false =>
  cases h1 : (v == ver 1) with
  | true => exact .inr (.inl ⟨rfl, eq_of_beq h1⟩)
  | false => exact .inr (.inr ⟨rfl, by simpa using h0, by simpa using h1⟩)
def cutW : Bytes -> Bytes × Bytes × Bool
 | [] => ([], [], false)
 | x :: s => bif x == 32 then ([], s, true) else (x :: (cutW s).1, (cutW s).2)
theorem jJ : ∀ {s : Bytes}, noSp s = true -> cutW s = (s, [], false)
 | [], _ => rfl
 | x :: s, h => by
  obtain ⟨h1, h2⟩ := iK h
  unfold cutW
  have : (x == 32) = false := by simpa using h1
  rw [this, jJ h2]; rfl
theorem eG : ∀ {a : Bytes} (t : Bytes), noSp a = true -> cutW (a ++ 32 :: t) = (a, t, true)
 | [], t, _ => rfl
 | x :: a, t, h => by
  obtain ⟨h1, h2⟩ := iK h
  rw [List.cons_append]
  unfold cutW
  have : (x == 32) = false := by simpa using h1
  rw [this, eG t h2]; rfl
theorem oG (s : Bytes) : (cutW s).1.length <= s.length /\ (cutW s).2.1.length <= s.length := by
 rcases fI s with h | ⟨a, t, rfl, h⟩
 ·rw [jJ h]; exact ⟨aD6 _, aD7 _⟩
 ·rw [eG t h]; simp; omega
def refm (v : Bytes) : Int := bif v == ver 1 then 1 else 0
theorem ver1 : ver 1 = [72, 84, 84, 80, 47, 49, 46, 49] := by unfold ver; rw [aX (by omega)]; rfl
theorem ver0 : ver 0 = [72, 84, 84, 80, 47, 49, 46, 48] := by unfold ver; rw [aX (by omega)]; rfl
theorem nD (v : Bytes) : (refm v = 1 /\ v = ver 1) ∨ (refm v = 0 /\ v ≠ ver 1) := by
 unfold refm
 cases h : (v == ver 1) with
 | true => exact .inl ⟨rfl, eq_of_beq h⟩
 | false => exact .inr ⟨rfl, by simpa using h⟩
def endS (s : S_Start) (l : Bytes) : S_Start × Int := bif (bif (!(aS s)) then true else (!(dD s == l))) then (dH, 30) else (s, 0)
theorem gK {s : S_Start} {l : Bytes} (h : aS s = true -> dD s = l -> False) : endS s l = (dH, 30) := by
 unfold endS
 cases hs : aS s with
 | false => rfl
 | true =>
  cases hp : (dD s == l) with
  | false => rfl
  | true => exact (h hs (eq_of_beq hp)).elim
theorem kL {s : S_Start} {l : Bytes} (h : aS s = true -> dD s = l) : endS s l = okS s := by
 unfold endS okS
 cases hs : aS s with
 | false => rfl
 | true => rw [h hs]; simp
theorem yG {m : Bytes} {i : Int} : aS (S_Start.mk m [] 0 [] i) = false := by
 unfold aS
 have : fH [] = false := by kernel_rfl
 rw [show ((S_Start.mk m [] 0 [] i).Code == 0) = true from rfl, aDc, this]
 simp
theorem digit3 (a b c : UInt8) (ha : bQ a = true) (hb : bQ b = true) (hc : bQ c = true) (h : ¬ (dv a * 100 + dv b * 10 + dv c) < 100) : Lib.decDigits (dv a * 100 + dv b * 10 + dv c).toNat = [a, b, c] := by
 have h1 := vH ha
 have h2 := vH hb
 have h3 := vH hc
 have key : ∀ (x : UInt8) (k : Nat), bQ x = true -> dv x = k -> UInt8.ofNat (48 + k) = x := fun x k _ hk => by
  unfold dv at hk
  have : 48 + k = x.toNat := by omega
  rw [this]; exact UInt8.ofNat_toNat
 rw [cA (by omega), cA (by omega), aX (by omega)]
 rw [key a _ ha (by omega), key b _ hb (by omega), key c _ hc (by omega)]
 rfl
theorem dec3 {t : Bytes} (hl : t.length = 3) (hd : (dec t).2 = 0) (h : 100 <= (dec t).1) : Lib.decDigits (dec t).1.toNat = t := by
 match t, hl with
 | [a, b, c], _ =>
  unfold dec decR at hd h ⊢
  have hne : (([a, b, c] : Bytes) == ([] : Bytes)) = false := rfl
  rw [hne] at hd h ⊢
  simp only [aDd] at hd h ⊢
  cases hall : ([a, b, c] : Bytes).all bQ with
  | false => rw [hall] at hd; exact absurd (show (10 : Int) = 0 from hd) (by omega)
  | true =>
   rw [hall] at hd h
   simp only [aDc, Bool.false_or] at hd h ⊢
   cases hov : over [a, b, c] 0 with
   | true => rw [hov] at hd; exact absurd (show (2 : Int) = 0 from hd) (by omega)
   | false =>
    rw [hov] at h
    simp only [aDd] at h ⊢
    simp only [aEe, List.all_nil, Bool.and_true, aD8] at hall
    have hv : valF [a, b, c] 0 = dv a * 100 + dv b * 10 + dv c := by
     simp only [valF]; omega
    rw [hv] at h ⊢
    exact digit3 a b c hall.1 hall.2.1 hall.2.2 (by omega)
theorem jZ {v c r : Bytes} (hv : noSp v = true) (hc : noSp c = true) :
  bJ v c r = bif (dec c).1 == 0 then (dH, 30) else endS (S_Start.mk [] [] (dec c).1 r (refm v)) (v ++ 32 :: (c ++ 32 :: r)) := by
 have hcode : ∀ m, aS (S_Start.mk [] [] (dec c).1 r m) = true -> (dec c).1 = 0 ∨ (100 <= (dec c).1 /\ (dec c).1 <= 599) := fun m h => l4 h
 cases hn : ((dec c).1 == 0) with
 | true => unfold bJ; rw [hn]; simp
 | false =>
  rw [aDd]
  have hn0 : (dec c).1 ≠ 0 := by simpa using hn
  have hp : dD (S_Start.mk [] [] (dec c).1 r (refm v)) = ver (refm v).toNat ++ 32 :: (Lib.decDigits (dec c).1.toNat ++ 32 :: r) := by unfold dD; rw [hn]; rfl
  have hback : dD (S_Start.mk [] [] (dec c).1 r (refm v)) = v ++ 32 :: (c ++ 32 :: r) -> aS (S_Start.mk [] [] (dec c).1 r (refm v)) = true -> ver (refm v).toNat = v /\ Lib.decDigits (dec c).1.toNat = c := by
   intro h hs
   rw [hp] at h
   have hm := dE hs
   have e1 := eG (Lib.decDigits (dec c).1.toNat ++ 32 :: r) (oF hm)
   rw [show ver ((S_Start.mk [] [] (dec c).1 r (refm v)).Minor).toNat = ver (refm v).toNat from rfl, h, eG _ hv] at e1
   injection e1 with e1 e2
   injection e2 with e2 _
   have e3 := eG r (r7 (dec c).1.toNat)
   rw [<- e2, eG r hc] at e3
   injection e3 with e3 _
   exact ⟨e1.symm, e3.symm⟩
  cases hok : (c.length == 3 && ((dec c).2 == 0 && !((dec c).1 == 0))) with
  | false =>
   unfold bJ
   rw [hok, aDd]
   refine (gK fun hs h => ?_).symm
   obtain ⟨_, h2⟩ := hback h hs
   have hc2 := (hcode _ hs).resolve_left hn0
   have h3 := vJ (n := (dec c).1.toNat) (by omega)
   rw [h2] at h3
   have h4 := r4 (n := (dec c).1.toNat) (by omega) (by omega)
   rw [h2] at h4
   rw [h4, show (dec c).2 = 0 by rw [h3]] at hok
   rw [hn] at hok
   cases hok
  | true =>
   unfold bJ
   rw [hok, aDc]
   rw [aD8, aD8] at hok
   have hl : c.length = 3 := by simpa using hok.1
   have hd : (dec c).2 = 0 := by simpa using hok.2.1
   rcases jY v with ⟨e, ev⟩ | ⟨e, ev⟩ | ⟨e, e0, e1⟩
   ·have hm : refm v = 0 := by rw [ev]; unfold refm; rw [ver0, ver1]; rfl
    rw [e, hm]
    refine (kL fun hs => ?_).symm
    have hc2 := (hcode _ hs).resolve_left hn0
    rw [hm] at hp
    rw [hp, dec3 hl hd hc2.1, ev]; rfl
   ·have hm : refm v = 1 := by rw [ev]; unfold refm; rw [ver1]; rfl
    rw [e, hm]
    refine (kL fun hs => ?_).symm
    have hc2 := (hcode _ hs).resolve_left hn0
    rw [hm] at hp
    rw [hp, dec3 hl hd hc2.1, ev]; rfl
   ·rw [jI (s := S_Start.mk [] [] (dec c).1 r (bX v)) e]
    refine (gK fun hs h => ?_).symm
    obtain ⟨h1, _⟩ := hback h hs
    rcases nD v with ⟨e2, e3⟩ | ⟨e2, e3⟩
    ·exact e1 e3
    ·rw [e2] at h1; exact e0 h1.symm
def oH (l : Bytes) : S_Start × Int :=
 bif (dec (cutW (cutW l).2.1).1).1 == 0 then (dH, 30) else
  endS (S_Start.mk [] [] (dec (cutW (cutW l).2.1).1).1 (cutW (cutW l).2.1).2.1 (refm (cutW l).1)) (bif (cutW (cutW l).2.1).2.2 then l else l ++ [32])
set_option maxRecDepth 100000
def Tot {α : Type} (o : Option α) (P : α -> Prop) : Prop := ∃ x, o = some x /\ P x
section
variable {α β : Type} {P : α -> Prop} {Q : β -> Prop}
theorem Tot.now {x : α} (h : P x) : Tot (some x) P := ⟨x, rfl, h⟩
theorem Tot.eq {o : Option α} {x : α} (h : o = some x) (hx : P x) : Tot o P := ⟨x, h, hx⟩
theorem Tot.bind {o : Option α} {f : α -> Option β} (h : Tot o P) (k : ∀ x, P x -> Tot (f x) Q) : Tot (o.bind f) Q := by
 obtain ⟨x, rfl, hx⟩ := h; exact k x hx
theorem Tot.mono {o : Option α} {P' : α -> Prop} (h : Tot o P) (k : ∀ x, P x -> P' x) : Tot o P' := by
 obtain ⟨x, h1, h2⟩ := h; exact ⟨x, h1, k x h2⟩
theorem Tot.br {b : Bool} {x y : Option α} (h1 : b = true -> Tot x P) (h2 : b = false -> Tot y P) : Tot (bif b then x else y) P := by
 cases b with
 | true => exact h1 rfl
 | false => exact h2 rfl
theorem Tot.guard [Inhabited α] {g : Bool} {o : Option α} (h : g = true -> Tot o P) : Tot (gcall g o) (fun x => g = true -> P x) := by
 cases g with
 | true => obtain ⟨x, h1, h2⟩ := h rfl; exact ⟨x, h1, fun _ => h2⟩
 | false => exact ⟨default, rfl, fun h => by cases h⟩
theorem Tot.chk {p : Prop} [Decidable p] {o : Option α} (hp : p) (h : Tot o P) : Tot (Pm.chk p o) P := by rw [aB hp]; exact h
end
theorem kM {σ ρ : Type} {body : σ -> Option (σ ⊕ ρ)} (μ : σ -> Nat) (Inv : σ -> Prop) (Q : ρ -> Prop)
  (h : ∀ x, Inv x -> (∃ y, body x = some (.inl y) /\ Inv y /\ μ y < μ x) ∨ ∃ r, body x = some (.inr r) /\ Q r) : ∀ x, Inv x -> Tot (loopO body x) Q := by
 have key : ∀ n x, μ x <= n -> Inv x -> Tot (loopO body x) Q := by
  intro n
  induction n with
  | zero =>
   intro x hx hi
   rw [aT]
   rcases h x hi with ⟨y, h1, h2, h3⟩ | ⟨r, h1, h2⟩
   ·omega
   ·rw [h1]; exact ⟨r, rfl, h2⟩
  | succ n ih =>
   intro x hx hi
   rw [aT]
   rcases h x hi with ⟨y, h1, h2, h3⟩ | ⟨r, h1, h2⟩
   ·rw [h1]; exact ih y (by omega) h2
   ·rw [h1]; exact ⟨r, rfl, h2⟩
 exact fun x => key (μ x) x (aD6 _)
theorem oI {α : Type} {l : List α} {a b : Int} (h : 0 <= a /\ a <= b /\ b <= (l.length : Int)) : Tot (slc l a b) (fun x => x = (l.drop a.toNat).take (b.toNat - a.toNat)) := by
 unfold slc; rw [aB h]; exact ⟨_, rfl, rfl⟩
theorem cQ (s : Bytes) (c : UInt8) : Lib.indexByte s c = -1 ∨ (0 <= Lib.indexByte s c /\ Lib.indexByte s c < (s.length : Int)) := by
 induction s with
 | nil => exact .inl rfl
 | cons b l ih =>
  unfold Lib.indexByte
  split
  ·right; simp
  ·split
   ·exact .inl rfl
   ·rename_i h1 h2
    have h2 : Lib.indexByte l c ≠ -1 := by simpa using h2
    right
    rcases ih with h | ⟨h3, h4⟩
    ·exact absurd h h2
    ·simp; omega
theorem nE (s : Bytes) (c : UInt8) : stringslite_Index s [c] = some (Lib.indexByte s c) := by
 unfold stringslite_Index
 have e1 : (((([c] : Bytes).length : Nat) : Int) == (0 : Int)) = false := rfl
 have e2 : (((([c] : Bytes).length : Nat) : Int) == (1 : Int)) = true := rfl
 rw [e1, e2, aDd, aDc]
 cases h : (([c] : Bytes) == s) with
 | true => rw [<- eq_of_beq h]; simp [Lib.indexByte]
 | false =>
  rw [aDd]
  show ((idx [c] ((0 : Nat) : Int)).bind _) = _
  rw [aV (x := c) rfl, aD5]
  show some (Lib.indexByte s (u8 (c.toNat : Int))) = _
  rw [p3]
def cutC (c : UInt8) : Bytes -> Bytes × Bytes × Bool
 | [] => ([], [], false)
 | x :: s => bif x == c then ([], s, true) else (x :: (cutC c s).1, (cutC c s).2)
theorem jK (c : UInt8) : ∀ (s : Bytes), (Lib.indexByte s c = -1 /\ cutC c s = (s, [], false)) ∨ ∃ i : Nat, Lib.indexByte s c = (i : Int) /\ i < s.length /\ cutC c s = (s.take i, s.drop (i + 1), true)
 | [] => .inl ⟨rfl, rfl⟩
 | x :: s => by
  unfold Lib.indexByte cutC
  cases hx : (x == c) with
  | true => exact .inr ⟨0, rfl, by simp, by simp⟩
  | false =>
   rcases jK c s with ⟨h1, h2⟩ | ⟨i, h1, h2, h3⟩
   ·left; rw [h1, h2]; exact ⟨rfl, rfl⟩
   ·right
    refine ⟨i + 1, ?_, by simpa using h2, by rw [h3]; simp⟩
    rw [h1]
    have : ((i : Int) == -1) = false := by simp
    simp [this]
theorem g5 {s : Bytes} (c : UInt8) (hs : s.length <= maxLen) : strings_Cut s [c] = some (cutC c s) := by
 unfold strings_Cut stringslite_Cut
 rw [nE, aD5]
 rcases jK c s with ⟨h1, h2⟩ | ⟨i, h1, h2, h3⟩
 ·rw [h1, h2]; rfl
 ·rw [h1, h3]
  have e : decide ((i : Int) ≥ (0 : Int)) = true := by simp
  have e2 : IntKind.i64.wrap ((i : Int) + (((([c] : Bytes).length : Nat) : Int))) = ((i + 1 : Nat) : Int) := by
   rw [aC (by simp; omega) (by unfold maxLen at hs; simp; omega)]; simp
  rw [e, aDc, e2]
  have h4 : slc s 0 (i : Int) = some (s.take i) := by unfold slc; rw [aB (by omega)]; simp
  have h5 : slc s ((i + 1 : Nat) : Int) (s.length : Int) = some (s.drop (i + 1)) := by
   unfold slc
   rw [aB (by omega)]
   show some ((s.drop (i + 1)).take (s.length - (i + 1))) = _
   rw [aD9 (by rw [List.length_drop]; exact aD6 _)]
  rw [h4, aD5, h5]; rfl
theorem l6 (c : UInt8) (s : Bytes) : (cutC c s).1.length <= s.length /\ (cutC c s).2.1.length <= s.length := by
 rcases jK c s with ⟨_, h⟩ | ⟨i, _, h1, h⟩
 ·rw [h]; exact ⟨aD6 _, aD7 _⟩
 ·rw [h]; simp; omega
theorem aAo (s : Bytes) (c : UInt8) : strings_Index s [c] = some (Lib.indexByte s c) := by
 first
 | rfl
 | (unfold strings_Index; rw [nE]; rfl)
theorem qB (s : Bytes) (c : UInt8) : strings_Contains s [c] = some (decide (Lib.indexByte s c ≥ (0 : Int))) := by
 unfold strings_Contains
 rw [aAo]; rfl
theorem eU {s : Bytes} (c : UInt8) (hs : s.length <= maxLen) : Tot (strings_TrimSuffix s [c]) (fun r => r.length <= s.length) := by
 unfold strings_TrimSuffix
 refine Tot.bind (P := fun r => r.length <= s.length) ?_ (fun x hx => .now hx)
 unfold stringslite_TrimSuffix
 refine Tot.bind (P := fun b => b = true -> 1 <= s.length) ?_ (fun b hb => ?_)
 ·unfold stringslite_HasSuffix
  by_cases h : 1 <= s.length
  ·have e : gslc (decide ((s.length : Int) ≥ ((([c] : Bytes).length : Nat) : Int))) s (IntKind.i64.wrap ((s.length : Int) - ((([c] : Bytes).length : Nat) : Int))) (s.length : Int) = some ((s.drop (s.length - 1)).take (s.length - (s.length - 1))) := by
    unfold gslc
    rw [aC (by simp; omega) (by simp; unfold maxLen at hs; omega), aB (fun _ => ⟨by simp; omega, by simp; omega, aEh _⟩)]
    have : ((s.length : Int) - ((([c] : Bytes).length : Nat) : Int)).toNat = s.length - 1 := by simp
    rw [this, aEa]
   rw [e, aD5]
   exact ⟨_, rfl, fun _ => h⟩
  ·have h0 : s = [] := List.eq_nil_of_length_eq_zero (by omega)
   subst h0
   exact ⟨_, rfl, fun h => by cases h⟩
 ·refine Tot.br (fun h => ?_) (fun _ => .now (aD6 _))
  have h1 := hb h
  refine Tot.bind (oI ?_) (fun x hx => .now ?_)
  ·rw [aC (by simp; omega) (by simp; unfold maxLen at hs; omega)]; simp; omega
  ·rw [hx]; simp; omega
theorem eB {s p : Bytes} (hs : s.length <= maxLen) : strings_TrimPrefix s p = some (bif aQ s p then s.drop p.length else s) := by
 unfold strings_TrimPrefix stringslite_TrimPrefix
 have h := bW s p
 have h2 : stringslite_HasPrefix s p = some (aQ s p) := by
  unfold strings_HasPrefix at h
  cases hx : stringslite_HasPrefix s p with
  | none => rw [hx] at h; cases h
  | some y => rw [hx] at h; exact h
 rw [h2, aD5]
 cases hb : aQ s p with
 | false => rfl
 | true =>
  have hl : p.length <= s.length := by
   unfold aQ at hb
   obtain ⟨t, rfl⟩ := List.isPrefixOf_iff_prefix.1 hb
   simp
  rw [aDc, aDc]
  unfold slc
  rw [aB (by omega)]
  show some ((s.drop p.length).take (s.length - p.length)) = _
  rw [aD9 (by simp)]
theorem yH {s : Bytes} (hs : s.length <= 1000000) : ∀ (k : Nat) (a : Nat), a <= s.length -> s.length < k + a -> Tot (bD s k (a : Int)) (fun l => ∀ x, x ∈ l -> (a : Int) < x.2 /\ x.2 <= (s.length : Int) /\ x.1.length <= s.length) := by
 intro k
 induction k with
 | zero =>
  intro a ha h
  omega
 | succ k ih =>
  intro a ha h
  unfold bD
  refine Tot.br (fun hd => ?_) (fun hd => .now fun x hx => by cases hx)
  have hd := of_decide_eq_true hd
  refine Tot.bind (oI ⟨by omega, by omega, aEh _⟩) (fun t ht => ?_)
  have htl : t.length = s.length - a := by rw [ht]; simp
  rw [cD, aD5]
  have e10 : u8 10 = (10 : UInt8) := rfl
  rw [e10]
  refine Tot.br (fun hn => .now fun x hx => by cases hx) (fun hn => ?_)
  have hn := of_decide_eq_false hn
  have hr := cQ t 10
  generalize Lib.indexByte t 10 = n at hn hr
  rcases hr with hr | ⟨h1, h2⟩
  ·omega
  have w1 : IntKind.i64.wrap ((a : Int) + n) = (a : Int) + n := aC (by omega) (by omega)
  have w2 : IntKind.i64.wrap (n + 1) = n + 1 := aC (by omega) (by omega)
  have w3 : IntKind.i64.wrap ((a : Int) + (n + 1)) = ((a + n.toNat + 1 : Nat) : Int) := by rw [aC (by omega) (by omega)]; omega
  rw [w1, w2, w3]
  refine Tot.bind (oI ⟨by omega, by omega, by omega⟩) (fun u hu => ?_)
  have hul : u.length <= s.length := by rw [hu]; simp; omega
  refine Tot.bind (eU 13 (by unfold maxLen; omega)) (fun line hl => ?_)
  refine Tot.bind (ih (a + n.toNat + 1) (by omega) (by omega)) (fun tl htl2 => .now ?_)
  intro x hx
  rcases List.mem_cons.1 hx with rfl | hx
  ·exact ⟨by show (a : Int) < _; omega, by show ((a + n.toNat + 1 : Nat) : Int) <= _; omega, by show line.length <= _; omega⟩
  ·obtain ⟨g1, g2, g3⟩ := htl2 x hx
   exact ⟨by omega, g2, g3⟩
theorem tL {s : Bytes} (hs : s.length <= 1000000) : Tot (bU s) (fun l => ∀ x, x ∈ l -> (0 : Int) < x.2 /\ x.2 <= (s.length : Int) /\ x.1.length <= s.length) := by
 unfold bU
 exact yH hs (s.length + 1) 0 (by omega) (by omega)
theorem nF (n : Nat) : ∀ (l : List (Bytes × Int)), (∀ x, x ∈ l -> (0 : Int) < x.2 /\ x.2 <= (n : Int) /\ x.1.length <= n) -> ((aJ n l).2 = 0 /\ 1 <= (aJ n l).1 /\ (aJ n l).1 <= (n : Int)) ∨ (aJ n l = (0, 3) /\ n <= 4000) ∨ aJ n l = (0, 2)
 | [], _ => by
  unfold aJ
  by_cases h : (n : Int) > 4000
  ·rw [decide_eq_true h]; exact .inr (.inr rfl)
  ·rw [decide_eq_false h]; exact .inr (.inl ⟨rfl, by omega⟩)
 | (line, a) :: l, h => by
  unfold aJ
  obtain ⟨h1, h2, _⟩ := h _ (aEm ..)
  cases decide (a > 4000) with
  | true => exact .inr (.inr rfl)
  | false =>
   rw [aDd]
   cases (line == []) with
   | true => exact .inl ⟨rfl, by have : (0 : Int) < a := h1; show (1 : Int) <= a; omega, h2⟩
   | false => exact nF n l (fun x hx => h x (aEk _ hx))
theorem yI {s : Bytes} (hs : s.length <= 1000000) : Tot (head_End s) (fun r => (r.2 = 0 /\ 1 <= r.1 /\ r.1 <= (s.length : Int)) ∨ (r = (0, 3) /\ s.length <= 4000) ∨ r = (0, 2)) := by
 unfold head_End
 exact Tot.bind (tL hs) (fun l hl => .now (nF s.length l hl))
theorem tM : ∀ (l : List (Bytes × Int)) (out : List S_Field), (∀ x, x ∈ l -> x.1.length <= 100000) -> FRow out -> out.length <= 40 -> Tot (aH l out) (fun r => FRow r.1 /\ r.1.length <= 40)
 | [], out, _, h1, h2 => .now ⟨h1, h2⟩
 | (line, a) :: l, out, hl, h1, h2 => by
  have hx := hl _ (aEm ..)
  unfold aH
  have hc := l6 58 line
  have nil : FRow [] := ⟨by simp, fun f hf => by cases hf⟩
  rw [g5 58 (by unfold maxLen; exact Nat.le_trans hx (by decide)), aD5, gZ (by unfold maxLen; have := hc.2; simp at hx; omega), aD5]
  have hf : (S_Field.mk (cutC 58 line).1 (trim (cutC 58 line).2.1)).Name.length <= 100000 /\ (S_Field.mk (cutC 58 line).1 (trim (cutC 58 line).2.1)).Value.length <= 100000 := by
   have := lV (cutC 58 line).2.1
   simp at hx ⊢
   omega
  rw [yA h1 ⟨by have := hf.1; unfold maxLen; omega, by have := hf.2; unfold maxLen; omega⟩, aD5]
  refine Tot.br (fun _ => .now ⟨nil, by simp⟩) (fun _ => ?_)
  refine Tot.br (fun _ => .now ⟨nil, by simp⟩) (fun _ => ?_)
  refine tM l _ (fun x hx => hl x (aEk _ hx)) (aAl h1 (by omega) hf) ?_
  unfold addB
  cases ((!dZ out) || !mayB (S_Field.mk (cutC 58 line).1 (trim (cutC 58 line).2.1))) with
  | true => simp
  | false =>
   cases he : (out.length == 40) with
   | true => simp
   | false =>
    have : out.length ≠ 40 := by simpa using he
    simp; omega
theorem eV {s : Bytes} (hs : s.length <= 100000) : Tot (head_Parse s) (fun r => FRow r.1 /\ r.1.length <= 40) := by
 have nil : FRow [] := ⟨by simp, fun f hf => by cases hf⟩
 unfold head_Parse
 refine Tot.br (fun _ => .now ⟨nil, by simp⟩) (fun _ => ?_)
 refine Tot.bind (P := fun _ => True) ?_ (fun b _ => ?_)
 ·cases he : (s == ([] : Bytes)) with
  | true => exact ⟨_, rfl, trivial⟩
  | false =>
   have hne : 1 <= s.length := by
    rcases s with _ | ⟨x, s⟩
    ·simp at he
    ·simp
   refine ⟨s[s.length - 1]'(by omega), ?_, trivial⟩
   show gidx true s _ = _
   rw [dY rfl]
   have e : IntKind.i64.wrap ((s.length : Int) - 1) = ((s.length - 1 : Nat) : Int) := by rw [aC (by omega) (by omega)]; omega
   rw [e]
   exact aV (aEd (by omega))
 ·refine Tot.br (fun _ => .now ⟨nil, by simp⟩) (fun _ => ?_)
  refine Tot.bind (tL (by omega)) (fun l hl => ?_)
  exact tM l [] (fun x hx => by have := (hl x hx).2.2; omega) nil (by simp)
def eI (asks : Bool) (m : Bytes) (h : S_Message) : S_Body × Int := bif asks then reqB h.Start h.Fields else ansB h.Start h.Fields m
theorem kN {r : S_Reader} (hs : d3 r.Head.Start) (hf : FRow r.Head.Fields) : wire_body r = some (eI r.Asks r.Method r.Head) := by
 unfold wire_body eI
 rw [vI hs hf, xY hs hf]
 cases r.Asks <;> rfl
def qC (b : S_Body) : Prop := b = B 0 0 ∨ (∃ z : Int, 0 <= z /\ z <= 20000 /\ b = B 1 z) ∨ b = B 2 0 ∨ b = B 3 0
theorem yJ {n : S_Body} (hn : n = B 0 0 ∨ n = B 3 0) : ∀ (l : List Bytes) (c : Option Int), (aY bR (d4 n) l c).2 = 0 -> qC (aY bR (d4 n) l c).1
 | [], none, _ => by
  unfold aY d4
  rcases hn with rfl | rfl
  ·exact .inl rfl
  ·exact .inr (.inr (.inr rfl))
 | [], some z, h => by
  unfold aY d4 at h ⊢
  dsimp only at h ⊢
  by_cases h1 : z < 0
  ·rw [decide_eq_true h1] at h; cases h
  ·rw [decide_eq_false h1] at h ⊢
   by_cases h2 : z > 20000
   ·rw [decide_eq_true h2] at h; cases h
   ·rw [decide_eq_false h2]
    exact .inr (.inl ⟨z, by omega, by omega, rfl⟩)
 | x :: l, c, h => by
  rw [bY] at h ⊢
  cases hs : bR c x with
  | inl c' => rw [hs] at h; exact yJ hn l c' h
  | inr r =>
   rw [hs] at h
   exfalso
   unfold bR at hs
   cases hd : ((dec x).2 == 10) with
   | true => rw [hd, aDc] at hs; cases hs; cases h
   | false =>
    rw [hd, aDd] at hs
    cases c with
    | none => cases hs
    | some z =>
     cases hz : (sizeOf x == z) with
     | true => simp only [hz, aDc] at hs; cases hs
     | false => simp only [hz, aDd] at hs; cases hs; cases h
theorem qD {mi : Int} {l : List S_Field} {n : S_Body} (hn : n = B 0 0 ∨ n = B 3 0) (h : (sayB mi l n).2 = 0) : qC (sayB mi l n).1 := by
 unfold sayB at h ⊢
 cases h1 : decide ((bH l nTE).length > 0) with
 | false => rw [h1, aDd] at h; rw [aDd]; exact yJ hn _ _ h
 | true =>
  rw [h1, aDc] at h
  rw [aDc]
  cases h2 : (decide ((bH l nCL).length > 0) || (mi == 0 || !(bI (Lib.join (bH l nTE) sep) == l0))) with
  | true => rw [h2, aDc] at h; cases h
  | false => rw [aDd]; exact .inr (.inr (.inl rfl))
structure tN (asks : Bool) (h : S_Message) (b : S_Body) : Prop where
 start : aS h.Start = true
 fields : dZ h.Fields = true
 code : (h.Start.Code == (0 : Int)) = asks
 kind : qC b
theorem kO {asks : Bool} {m : Bytes} {h : S_Message} (h0 : (eI asks m h).2 = 0) : tN asks h (eI asks m h).1 := by
 unfold eI at h0 ⊢
 cases asks with
 | true =>
  rw [aDc] at h0 ⊢
  unfold reqB at h0 ⊢
  cases h1 : aS h.Start with
  | false => rw [h1] at h0; cases h0
  | true =>
   cases h2 : (h.Start.Code != (0 : Int)) with
   | true => rw [h1, h2] at h0; cases h0
   | false =>
    cases h3 : dZ h.Fields with
    | false => rw [h1, h2, h3] at h0; cases h0
    | true =>
     rw [h1, h2, h3] at h0
     exact ⟨h1, h3, by simpa using h2, qD (.inl rfl) h0⟩
 | false =>
  rw [aDd] at h0 ⊢
  unfold ansB at h0 ⊢
  cases h1 : aS h.Start with
  | false => rw [h1] at h0; cases h0
  | true =>
   cases h2 : (h.Start.Code == (0 : Int)) with
   | true => rw [h1, h2] at h0; cases h0
   | false =>
    cases h3 : dZ h.Fields with
    | false => rw [h1, h2, h3] at h0; cases h0
    | true =>
     rw [h1, h2, h3] at h0
     refine ⟨h1, h3, h2, ?_⟩
     revert h0
     show (bif (decide (h.Start.Code < 200) || (h.Start.Code == 204 || (h.Start.Code == 304 || m == ([72, 69, 65, 68] : Bytes)))) then (B 0 0, 0) else sayB h.Start.Minor h.Fields (B 3 0)).2 = (0 : Int) -> qC (bif (decide (h.Start.Code < 200) || (h.Start.Code == 204 || (h.Start.Code == 304 || m == ([72, 69, 65, 68] : Bytes)))) then (B 0 0, (0 : Int)) else sayB h.Start.Minor h.Fields (B 3 0)).1
     cases (decide (h.Start.Code < 200) || (h.Start.Code == 204 || (h.Start.Code == 304 || m == ([72, 69, 65, 68] : Bytes)))) with
     | true => intro _; exact .inl rfl
     | false => intro h0; exact qD (.inr rfl) h0
theorem yK {n : Int} (h : 0 <= n) (h' : n < 18446744073709551616) : IntKind.u64.wrap n = n := by
 simp [IntKind.wrap, IntKind.bits, IntKind.signed]
 omega
theorem hex1 (b : UInt8) : Tot (number_ReadHex_1 (b.toNat : Int)) (fun v => 0 <= v /\ v <= 16) := by
 have := cO (p := fun b => match number_ReadHex_1 (b.toNat : Int) with | some v => decide (0 <= v) && decide (v <= 16) | none => false) (by kernel_rfl) b
 cases h : number_ReadHex_1 (b.toNat : Int) with
 | none => simp only [h] at this; cases this
 | some v => simp only [h, aD8, decide_eq_true_eq] at this; exact ⟨v, rfl, this⟩
theorem l7 {s : Bytes} (hs : s.length <= maxLen) : Tot (number_ReadHex s) (fun r => 0 <= r.1 /\ r.1 <= 1099511627776) := by
 unfold number_ReadHex
 refine Tot.bind (P := fun r => 0 <= r.1 /\ r.1 <= 1099511627776) ?_ (fun x hx => .now hx)
 unfold number_read_uint64
 refine Tot.br (fun _ => .now (by simp)) (fun _ => ?_)
 refine kM (fun x : Int × Bool × Int => (s.length : Int).toNat - x.2.2.toNat) (fun x => (0 <= x.1 /\ x.1 <= 1099511627776) /\ 0 <= x.2.2 /\ x.2.2 <= (s.length : Int)) _ (fun x hx => ?_) _ (by simp [IntKind.wrap, IntKind.bits, IntKind.signed])
 obtain ⟨s1, s2, s3⟩ := x
 obtain ⟨⟨h1, h2⟩, h3, h4⟩ := hx
 simp only at h1 h2 h3 h4
 unfold number_read_uint64_b1
 dsimp only
 by_cases h : s3 < (s.length : Int)
 ·rw [decide_eq_true h, aDc]
  obtain ⟨i, rfl⟩ : ∃ i : Nat, s3 = i := ⟨s3.toNat, by omega⟩
  rw [aV (aEd (show i < s.length by omega)), aD5]
  obtain ⟨v, hv, hv0, hv1⟩ := hex1 (s[i]'(by omega))
  rw [hv, aD5, aC (by omega) (by unfold maxLen at hs; omega)]
  have e1 : IntKind.u64.wrap (s1 * 16) = s1 * 16 := yK (by omega) (by omega)
  have e2 : IntKind.u64.wrap (s1 * 16 + v) = s1 * 16 + v := yK (by omega) (by omega)
  rw [e1, e2]
  cases hd : decide (v ≥ (16 : Int)) with
  | true => exact .inr ⟨_, rfl, by simp⟩
  | false =>
   rw [aDd]
   by_cases hb : s1 * 16 + v > 1099511627776
   ·rw [decide_eq_true hb]; exact .inl ⟨_, rfl, ⟨⟨by simp, by simp⟩, by show (0 : Int) <= (i : Int) + 1; omega, by show (i : Int) + 1 <= _; omega⟩, by show (s.length : Int).toNat - ((i : Int) + 1).toNat < (s.length : Int).toNat - (i : Int).toNat; omega⟩
   ·rw [decide_eq_false hb]; exact .inl ⟨_, rfl, ⟨⟨by show (0 : Int) <= s1 * 16 + v; omega, by show s1 * 16 + v <= _; omega⟩, by show (0 : Int) <= (i : Int) + 1; omega, by show (i : Int) + 1 <= _; omega⟩, by show (s.length : Int).toNat - ((i : Int) + 1).toNat < (s.length : Int).toNat - (i : Int).toNat; omega⟩
 ·rw [decide_eq_false h, aDd]
  cases s2 with
  | true => exact .inr ⟨_, rfl, by simp⟩
  | false => exact .inr ⟨_, rfl, by simp; omega⟩
structure ChOk (c : S_Chunked) : Prop where
 stage : 0 <= c.Stage /\ c.Stage <= 4
 size : 0 <= c.Size /\ c.Size <= 20000
 line : c.Line.length <= 200 /\ c.Line.contains 10 = false
 data : c.Stage = 1 -> 1 <= c.Left /\ c.Left <= 20000 - c.Size /\ c.Line = []
 rest : c.Stage ≠ 1 -> c.Left = 0 /\ (c.Stage = 4 -> c.Line = [])
theorem r9 {c : S_Chunked} : Tot (chunk_Right c) (fun b => b = true ↔ ChOk c) := by
 unfold chunk_Right
 by_cases h : (0 <= c.Stage /\ c.Stage <= 4) /\ (0 <= c.Size /\ c.Size <= 20000) /\ c.Line.length <= 200
 ·obtain ⟨⟨h1, h2⟩, ⟨h3', h4⟩, h5⟩ := h
  have e : (bif (bif (bif (bif (decide ((c.Stage) < (0 : Int))) then true else (decide ((c.Stage) > (4 : Int)))) then true else (decide ((c.Size) < (0 : Int)))) then true else (decide ((c.Size) > (20000 : Int)))) then true else (decide (((c.Line).length : Int) > (200 : Int)))) = false := by
   rw [decide_eq_false (by omega), decide_eq_false (by omega), decide_eq_false (by omega), decide_eq_false (by omega), decide_eq_false (by omega)]; rfl
  rw [e, bG (show (!false) = true from rfl), qB, aD5, cP, aDd]
  cases hl : c.Line.contains 10 with
  | true => exact Tot.eq rfl (show (false = true ↔ ChOk c) from ⟨fun h => (by cases h), fun h => absurd (h.line.2.symm.trans hl) (by simp)⟩)
  | false =>
   rw [aDd]
   by_cases h6 : c.Stage = 1
   ·have e6 : (c.Stage == (1 : Int)) = true := by simp [h6]
    rw [e6, aDc]
    have ew : IntKind.i64.wrap ((20000 : Int) - c.Size) = 20000 - c.Size := aC (by omega) (by omega)
    rw [ew]
    refine ⟨_, rfl, ⟨fun h => ?_, fun h => ?_⟩⟩
    ·cases d1 : decide (c.Left ≥ 1) with
     | false => rw [d1] at h; cases h
     | true =>
      cases d2 : decide (c.Left <= 20000 - c.Size) with
      | false => rw [d1, d2] at h; cases h
      | true =>
       rw [d1, d2] at h
       have h3 : (c.Line == ([] : Bytes)) = true := h
       exact ⟨⟨h1, h2⟩, ⟨h3', h4⟩, ⟨h5, hl⟩, fun _ => ⟨of_decide_eq_true d1, of_decide_eq_true d2, eq_of_beq h3⟩, fun hn => absurd h6 hn⟩
    ·obtain ⟨g1, g2, g3⟩ := h.data h6
     rw [decide_eq_true g1, decide_eq_true g2, g3]; rfl
   ·have e6 : (c.Stage == (1 : Int)) = false := by simp [h6]
    rw [e6, aDd]
    refine ⟨_, rfl, ⟨fun h => ?_, fun h => ?_⟩⟩
    ·by_cases h7 : c.Left = 0
     ·refine ⟨⟨h1, h2⟩, ⟨h3', h4⟩, ⟨h5, hl⟩, fun hn => absurd hn h6, fun _ => ⟨h7, fun h8 => ?_⟩⟩
      rw [h7, h8] at h
      simpa using h
     ·have : (c.Left == (0 : Int)) = false := by simp [h7]
      rw [this] at h; cases h
    ·obtain ⟨g1, g2⟩ := h.rest h6
     rw [g1]
     by_cases h8 : c.Stage = 4
     ·rw [g2 h8, h8]; rfl
     ·have : (c.Stage != (4 : Int)) = true := by simp [h8]
      rw [this]; rfl
 ·have e : (bif (bif (bif (bif (decide ((c.Stage) < (0 : Int))) then true else (decide ((c.Stage) > (4 : Int)))) then true else (decide ((c.Size) < (0 : Int)))) then true else (decide ((c.Size) > (20000 : Int)))) then true else (decide (((c.Line).length : Int) > (200 : Int)))) = true := by
   by_cases h1 : c.Stage < 0
   ·rw [decide_eq_true h1]; rfl
   rw [decide_eq_false h1]
   by_cases h2 : c.Stage > 4
   ·rw [decide_eq_true h2]; rfl
   rw [decide_eq_false h2]
   by_cases h3 : c.Size < 0
   ·rw [decide_eq_true h3]; rfl
   rw [decide_eq_false h3]
   by_cases h4 : c.Size > 20000
   ·rw [decide_eq_true h4]; rfl
   rw [decide_eq_false h4]
   have h5 : ((c.Line).length : Int) > (200 : Int) := by omega
   rw [decide_eq_true h5]; rfl
  rw [e, dM (show (!true) = false from rfl), aD5]
  exact Tot.eq rfl (show (false = true ↔ ChOk c) from ⟨fun h => (by cases h), fun hc => absurd ⟨hc.stage, hc.size, hc.line.1⟩ h⟩)
noncomputable def l8 (f : S_chunk_state -> Bytes -> Option (Unit × S_chunk_state)) (o0 : S_chunk_state) (a1 : Bytes) : Option (Int × S_chunk_state) :=
 (strings_IndexByte a1 (10 : Int)).bind fun x1 =>
  bif (decide (x1 ≥ (0 : Int))) then
   (slc a1 0 x1).bind fun x2 =>
   bif (decide ((IntKind.i64.wrap ((((o0.Chunked).Line).length : Int) + (x2.length : Int))) > (200 : Int))) then
    some ((0 : Int), (S_chunk_state.mk (o0.Chunked) (33 : Int)))
   else
    (cat ((o0.Chunked).Line) x2).bind fun x3 =>
    bif (decide (x1 < (0 : Int))) then
     some ((a1.length : Int), (S_chunk_state.mk (S_Chunked.mk ((o0.Chunked).Stage) x3 ((o0.Chunked).Left) ((o0.Chunked).Size)) (o0.bad)))
    else
     (strings_TrimSuffix x3 ([13] : Bytes)).bind fun x4 =>
     (f (S_chunk_state.mk (S_Chunked.mk ((o0.Chunked).Stage) ([] : Bytes) ((o0.Chunked).Left) ((o0.Chunked).Size)) (o0.bad)) x4).bind fun x5 =>
     some ((IntKind.i64.wrap (x1 + (1 : Int))), (x5.2))
  else
   bif (decide ((IntKind.i64.wrap ((((o0.Chunked).Line).length : Int) + (a1.length : Int))) > (200 : Int))) then
    some ((0 : Int), (S_chunk_state.mk (o0.Chunked) (33 : Int)))
   else
    (cat ((o0.Chunked).Line) a1).bind fun x6 =>
    bif (decide (x1 < (0 : Int))) then
     some ((a1.length : Int), (S_chunk_state.mk (S_Chunked.mk ((o0.Chunked).Stage) x6 ((o0.Chunked).Left) ((o0.Chunked).Size)) (o0.bad)))
    else
     (strings_TrimSuffix x6 ([13] : Bytes)).bind fun x7 =>
     (f (S_chunk_state.mk (S_Chunked.mk ((o0.Chunked).Stage) ([] : Bytes) ((o0.Chunked).Left) ((o0.Chunked).Size)) (o0.bad)) x7).bind fun x8 =>
     some ((IntKind.i64.wrap (x1 + (1 : Int))), (x8.2))
theorem yL (o0 : S_chunk_state) (a1 : Bytes) : chunk_state_line o0 a1 = bif (((o0.Chunked).Stage) == (2 : Int)) then l8 chunk_state_end o0 a1 else bif (((o0.Chunked).Stage) == (3 : Int)) then l8 chunk_state_tail o0 a1 else l8 chunk_state_size o0 a1 := rfl
def LineQ (c : S_Chunked) (n : Nat) (r : Int × S_chunk_state) : Prop := r.2.bad ≠ 0 ∨ (1 <= r.1 /\ r.1 <= (n : Int) /\ r.2.bad = 0 /\ ChOk r.2.Chunked /\ r.2.Chunked.Size = c.Size)
theorem l9 {f : S_chunk_state -> Bytes -> Option (Unit × S_chunk_state)} {c : S_Chunked} {a1 : Bytes} (hc : ChOk c) (h1 : c.Stage ≠ 1) (h4 : c.Stage ≠ 4) (ha : 1 <= a1.length) (hl : a1.length <= 1000000)
  (hf : ∀ x : Bytes, x.length <= 200 -> Tot (f (S_chunk_state.mk (S_Chunked.mk c.Stage ([] : Bytes) c.Left c.Size) 0) x) (fun r => r.2.bad ≠ 0 ∨ (r.2.bad = 0 /\ ChOk r.2.Chunked /\ r.2.Chunked.Size = c.Size))) :
  Tot (l8 f (S_chunk_state.mk c 0) a1) (LineQ c a1.length) := by
 unfold l8
 have hll := hc.line.1
 rw [cD, aD5]
 have e10 : u8 10 = (10 : UInt8) := rfl
 rw [e10]
 have hr := cQ a1 10
 have hh := cP a1 10
 generalize Lib.indexByte a1 10 = n at hr hh
 refine Tot.br (fun hn => ?_) (fun hn => ?_)
 ·have hn := of_decide_eq_true hn
  rcases hr with hr | ⟨hr1, hr2⟩
  ·omega
  refine Tot.bind (oI ⟨aEh _, hr1, by omega⟩) (fun x2 hx2 => ?_)
  have hx2l : x2.length = n.toNat := by rw [hx2]; simp; omega
  have ew : IntKind.i64.wrap (((c.Line).length : Int) + (x2.length : Int)) = ((c.Line).length : Int) + (x2.length : Int) := aC (by omega) (by omega)
  refine Tot.br (fun _ => .now (.inl (by simp))) (fun hb => ?_)
  have hb : ¬ (IntKind.i64.wrap (((c.Line).length : Int) + (x2.length : Int)) > 200) := of_decide_eq_false hb
  rw [ew] at hb
  have hcat : cat c.Line x2 = some (c.Line ++ x2) := by unfold cat; rw [aB (by unfold maxLen; omega)]
  show Tot ((cat c.Line x2).bind _) _
  rw [hcat, aD5, decide_eq_false (show ¬ n < 0 by omega), aDd]
  refine Tot.bind (eU 13 (by unfold maxLen; simp; omega)) (fun x4 hx4 => ?_)
  refine Tot.bind (hf x4 (by simp at hx4; omega)) (fun x5 hx5 => .now ?_)
  rw [aC (by omega) (by omega)]
  rcases hx5 with h | ⟨g1, g2, g3⟩
  ·exact .inl h
  ·exact .inr ⟨by show 1 <= n + 1; omega, by show n + 1 <= _; omega, g1, g2, g3⟩
 ·have hno := hn
  have hn := of_decide_eq_false hn
  refine Tot.br (fun _ => .now (.inl (by simp))) (fun hb => ?_)
  have hb : ¬ (IntKind.i64.wrap (((c.Line).length : Int) + (a1.length : Int)) > 200) := of_decide_eq_false hb
  rw [aC (by omega) (by omega)] at hb
  have hcat : cat c.Line a1 = some (c.Line ++ a1) := by unfold cat; rw [aB (by unfold maxLen; omega)]
  show Tot ((cat c.Line a1).bind _) _
  rw [hcat, aD5, decide_eq_true (show n < 0 by omega), aDc]
  refine .now (.inr ⟨by show (1 : Int) <= (a1.length : Int); omega, aEh _, rfl, ?_, rfl⟩)
  have h3 : a1.contains 10 = false := hh.symm.trans hno
  refine ⟨hc.stage, hc.size, ⟨by show (c.Line ++ a1).length <= 200; simp; omega, ?_⟩, fun h => absurd h h1, fun h => ⟨(hc.rest h1).1, fun h => absurd h h4⟩⟩
  show (c.Line ++ a1).contains 10 = false
  have h2 := hc.line.2
  simp only [List.contains_eq_mem, List.mem_append, decide_eq_false_iff_not] at h2 h3 ⊢
  intro h; exact h.elim h2 h3
theorem yM {c : S_Chunked} (hc : ChOk c) (h1 : c.Stage ≠ 1) (x : Bytes) : Tot (chunk_state_end (S_chunk_state.mk (S_Chunked.mk c.Stage ([] : Bytes) c.Left c.Size) 0) x) (fun r => r.2.bad ≠ 0 ∨ (r.2.bad = 0 /\ ChOk r.2.Chunked /\ r.2.Chunked.Size = c.Size)) := by
 unfold chunk_state_end
 refine Tot.br (fun _ => .now (.inl (by simp))) (fun _ => .now (.inr ⟨rfl, ?_, rfl⟩))
 exact ⟨by simp, hc.size, ⟨by simp, by simp⟩, fun h => (by cases h), fun _ => ⟨(hc.rest h1).1, fun h => by cases h⟩⟩
theorem tO {c : S_Chunked} (hc : ChOk c) (h1 : c.Stage ≠ 1) (h3 : c.Stage = 3) (x : Bytes) : Tot (chunk_state_tail (S_chunk_state.mk (S_Chunked.mk c.Stage ([] : Bytes) c.Left c.Size) 0) x) (fun r => r.2.bad ≠ 0 ∨ (r.2.bad = 0 /\ ChOk r.2.Chunked /\ r.2.Chunked.Size = c.Size)) := by
 unfold chunk_state_tail
 refine Tot.br (fun _ => .now (.inr ⟨rfl, ?_, rfl⟩)) (fun _ => .now (.inr ⟨rfl, ?_, rfl⟩))
 ·exact ⟨by simp, hc.size, ⟨by simp, by simp⟩, fun h => (by cases h), fun _ => ⟨(hc.rest h1).1, fun h => rfl⟩⟩
 ·exact ⟨hc.stage, hc.size, ⟨by simp, by simp⟩, fun h => absurd h h1, fun _ => ⟨(hc.rest h1).1, fun h => rfl⟩⟩
theorem tP {c : S_Chunked} (hc : ChOk c) (h1 : c.Stage ≠ 1) (x : Bytes) (hx : x.length <= 200) : Tot (chunk_state_size (S_chunk_state.mk (S_Chunked.mk c.Stage ([] : Bytes) c.Left c.Size) 0) x) (fun r => r.2.bad ≠ 0 ∨ (r.2.bad = 0 /\ ChOk r.2.Chunked /\ r.2.Chunked.Size = c.Size)) := by
 unfold chunk_state_size
 have hcut := l6 59 x
 have htr := lV (cutC 59 x).1
 rw [g5 59 (by unfold maxLen; omega), aD5, gZ (by unfold maxLen; omega), aD5]
 refine Tot.bind (l7 (by unfold maxLen; omega)) (fun v hv => ?_)
 obtain ⟨hv0, hv1⟩ := hv
 have hsz := hc.size
 refine Tot.br (fun _ => .now (.inl (by simp))) (fun _ => ?_)
 refine Tot.br (fun _ => .now (.inl (by simp))) (fun hb => ?_)
 have ew : IntKind.u64.wrap (IntKind.i64.wrap ((20000 : Int) - c.Size)) = 20000 - c.Size := by rw [aC (by omega) (by omega), yK (by omega) (by omega)]
 have hle : v.1 <= 20000 - c.Size := by
  cases hd : decide (v.1 > (IntKind.u64.wrap (IntKind.i64.wrap ((20000 : Int) - c.Size)))) with
  | true =>
   have hb2 : (bif (v.2 != (0 : Int)) then true else (decide (v.1 > (IntKind.u64.wrap (IntKind.i64.wrap ((20000 : Int) - c.Size)))))) = false := hb
   rw [hd] at hb2
   cases hx : (v.2 != (0 : Int)) <;> rw [hx] at hb2 <;> cases hb2
  | false => have := of_decide_eq_false hd; rw [ew] at this; omega
 refine Tot.br (fun _ => .now (.inr ⟨rfl, ?_, rfl⟩)) (fun hz => .now (.inr ⟨rfl, ?_, rfl⟩))
 ·exact ⟨by simp, hc.size, ⟨by simp, by simp⟩, fun h => (by cases h), fun _ => ⟨(hc.rest h1).1, fun h => by cases h⟩⟩
 ·have hz : v.1 ≠ 0 := by simpa using hz
  have ew2 : IntKind.i64.wrap v.1 = v.1 := aC (by omega) (by omega)
  refine ⟨by simp, hc.size, ⟨by simp, by simp⟩, fun _ => ⟨?_, ?_, rfl⟩, fun h => absurd rfl h⟩
  ·show 1 <= IntKind.i64.wrap v.1; rw [ew2]; omega
  ·show IntKind.i64.wrap v.1 <= 20000 - c.Size; rw [ew2]; exact hle
theorem tQ {c : S_Chunked} {a1 : Bytes} (hc : ChOk c) (h1 : c.Stage ≠ 1) (h4 : c.Stage ≠ 4) (ha : 1 <= a1.length) (hl : a1.length <= 1000000) : Tot (chunk_state_line (S_chunk_state.mk c 0) a1) (LineQ c a1.length) := by
 rw [yL]
 refine Tot.br (fun _ => l9 hc h1 h4 ha hl fun x _ => yM hc h1 x) (fun _ => ?_)
 refine Tot.br (fun h3 => l9 hc h1 h4 ha hl fun x _ => tO hc h1 (by simpa using h3) x) (fun _ => ?_)
 exact l9 hc h1 h4 ha hl fun x hx => tP hc h1 x hx
structure FeedQ (c : S_Chunked) (t : Bytes) (r : S_Chunked × Bytes × Int × Int) : Prop where
 ok : ChOk r.1
 took : 0 <= r.2.2.1 /\ r.2.2.1 <= (t.length : Int)
 all : r.1.Stage ≠ 4 -> r.2.2.1 = (t.length : Int)
 size : r.1.Size = c.Size + (r.2.1.length : Int)
 bad : r.2.2.2 = 0
theorem qE {c : S_Chunked} {t : Bytes} (hc : ChOk c) (ht : t.length <= 1000000) : Tot (chunk_Feed c t) (fun r => r.2.2.2 ≠ 0 ∨ FeedQ c t r) := by
 unfold chunk_Feed
 obtain ⟨b, hb, hb2⟩ := r9 (c := c)
 rw [hb, hb2.2 hc, aD5]
 show Tot (loopO (chunk_Feed_b1 t) ((0 : Int), (S_chunk_state.mk c (0 : Int)), ([] : Bytes))) _
 refine kM (fun x : Int × S_chunk_state × Bytes => t.length - x.1.toNat) (fun x => (0 <= x.1 /\ x.1 <= (t.length : Int)) /\ x.2.1.bad = 0 /\ ChOk x.2.1.Chunked /\ x.2.1.Chunked.Size = c.Size + (x.2.2.length : Int)) _ (fun x hx => ?_) _ ⟨⟨by simp, by simp⟩, rfl, hc, by simp⟩
 obtain ⟨a, ⟨c1, bd⟩, d⟩ := x
 obtain ⟨⟨h1, h2⟩, h3, h4, h5⟩ := hx
 simp only at h1 h2 h3 h4 h5
 subst h3
 have hdl : d.length <= 20000 := by have := h4.size; have := hc.size; omega
 unfold chunk_Feed_b1
 dsimp only
 by_cases hlt : a < (t.length : Int)
 ·rw [decide_eq_true hlt, aDc]
  by_cases hs4 : c1.Stage = 4
  ·have e : (c1.Stage != (4 : Int)) = false := by simp [hs4]
   rw [e, aDd]
   refine .inr ⟨_, by unfold bcat; rw [if_pos (by simp; omega)]; rfl, .inr ⟨h4, ⟨h1, h2⟩, fun h => absurd hs4 h, h5, rfl⟩⟩
  ·have e : (c1.Stage != (4 : Int)) = true := by simp [hs4]
   rw [e, aDc]
   by_cases hs1 : c1.Stage = 1
   ·have e1 : (c1.Stage != (1 : Int)) = false := by simp [hs1]
    obtain ⟨g1, g2, g3⟩ := h4.data hs1
    have hsz := h4.size
    rw [e1, aDd]
    have ew : IntKind.i64.wrap ((t.length : Int) - a) = (t.length : Int) - a := aC (by omega) (by omega)
    rw [ew]
    obtain ⟨m, hm, hm1, hm2, hm3⟩ : ∃ m, imin c1.Left ((t.length : Int) - a) = m /\ 1 <= m /\ m <= c1.Left /\ m <= (t.length : Int) - a := by
     refine ⟨_, rfl, ?_⟩
     unfold imin
     split <;> omega
    rw [hm]
    have ew2 : IntKind.i64.wrap (a + m) = a + m := aC (by omega) (by omega)
    have ew3 : IntKind.i64.wrap (c1.Left - m) = c1.Left - m := aC (by omega) (by omega)
    have ew4 : IntKind.i64.wrap (c1.Size + m) = c1.Size + m := aC (by omega) (by omega)
    rw [ew2, ew3, ew4]
    have hsl : slc t a (a + m) = some ((t.drop a.toNat).take ((a + m).toNat - a.toNat)) := by unfold slc; rw [aB ⟨h1, by omega, by omega⟩]
    rw [hsl, aD5]
    have hxl : ((t.drop a.toNat).take ((a + m).toNat - a.toNat)).length = m.toNat := by simp; omega
    have hbc : bcat d ((t.drop a.toNat).take ((a + m).toNat - a.toNat)) = some (d ++ (t.drop a.toNat).take ((a + m).toNat - a.toNat)) := by unfold bcat; rw [if_pos (by rw [hxl]; omega)]
    rw [hbc, aD5]
    have hsz2 : c1.Size + m = c.Size + ((d ++ (t.drop a.toNat).take ((a + m).toNat - a.toNat)).length : Int) := by rw [aEg, hxl]; omega
    by_cases h0 : c1.Left - m = 0
    ·have e0 : ((c1.Left - m) == (0 : Int)) = true := by simp [h0]
     rw [e0, aDc]
     refine .inl ⟨_, rfl, ⟨⟨by show 0 <= a + m; omega, by show a + m <= _; omega⟩, rfl, ⟨by simp, by show 0 <= c1.Size + m /\ c1.Size + m <= 20000; omega, h4.line, fun h => (by cases h), fun _ => ⟨h0, fun h => by cases h⟩⟩, hsz2⟩, by show t.length - (a + m).toNat < t.length - a.toNat; omega⟩
    ·have e0 : ((c1.Left - m) == (0 : Int)) = false := by simp [h0]
     rw [e0, aDd]
     refine .inl ⟨_, rfl, ⟨⟨by show 0 <= a + m; omega, by show a + m <= _; omega⟩, rfl, ⟨h4.stage, by show 0 <= c1.Size + m /\ c1.Size + m <= 20000; omega, h4.line, fun _ => ⟨by show 1 <= c1.Left - m; omega, by show c1.Left - m <= 20000 - (c1.Size + m); omega, g3⟩, fun h => absurd hs1 h⟩, hsz2⟩, by show t.length - (a + m).toNat < t.length - a.toNat; omega⟩
   ·have e1 : (c1.Stage != (1 : Int)) = true := by simp [hs1]
    rw [e1, aDc]
    have hsl : slc t a (t.length : Int) = some ((t.drop a.toNat).take (t.length - a.toNat)) := by unfold slc; rw [aB ⟨h1, by omega, by omega⟩]; rfl
    rw [hsl, aD5]
    have hxl : ((t.drop a.toNat).take (t.length - a.toNat)).length = t.length - a.toNat := by simp
    obtain ⟨x6, hx6, hq⟩ := tQ (a1 := (t.drop a.toNat).take (t.length - a.toNat)) h4 hs1 hs4 (by rw [hxl]; omega) (by rw [hxl]; omega)
    rw [hx6, aD5]
    rcases hq with hq | ⟨q1, q2, q3, q4, q5⟩
    ·have e2 : (x6.2.bad != (0 : Int)) = true := by simp [hq]
     rw [e2, aDc]
     exact .inr ⟨_, rfl, .inl hq⟩
    ·have e2 : (x6.2.bad != (0 : Int)) = false := by simp [q3]
     rw [e2, aDd]
     rw [hxl] at q2
     have ew : IntKind.i64.wrap (a + x6.1) = a + x6.1 := aC (by omega) (by omega)
     rw [ew]
     exact .inl ⟨_, rfl, ⟨⟨by show 0 <= a + x6.1; omega, by show a + x6.1 <= _; omega⟩, q3, q4, by rw [q5]; exact h5⟩, by show t.length - (a + x6.1).toNat < t.length - a.toNat; omega⟩
 ·rw [decide_eq_false hlt, aDd]
  refine .inr ⟨_, by unfold bcat; rw [if_pos (by simp; omega)]; rfl, .inr ⟨h4, ⟨h1, h2⟩, fun _ => by show a = _; omega, h5, rfl⟩⟩
theorem jL (a b : Int) : (imin a b = a /\ a <= b) ∨ (imin a b = b /\ b <= a) := by
 unfold imin
 split <;> omega
def bK : S_Message := S_Message.mk dH [] []
def aK : S_Chunked := S_Chunked.mk 0 [] 0 0
theorem kP : ChOk aK := ⟨⟨aEh _, by decide⟩, ⟨aEh _, by decide⟩, ⟨aD7 _, rfl⟩, fun h => (by cases h), fun _ => ⟨rfl, fun _ => rfl⟩⟩
structure RIn (a : Bool) (m : Bytes) (h : S_Message) (b : S_Body) (c : S_Chunked) : Prop where
 start : d3 h.Start
 fields : FRow h.Fields
 body : eI a m h = (b, 0)
 len : h.Body.length <= 40000
 noch : b.Kind ≠ 2 -> c = aK
 k1 : b.Kind = 1 -> (h.Body.length : Int) <= b.Size
 k2 : b.Kind = 2 -> ChOk c /\ c.Stage ≠ 4 /\ c.Size = (h.Body.length : Int)
 k3 : b.Kind = 3 -> h.Body.length <= 20000
def mu (w : S_wire_reading) : Nat := 2 * w.Reader.Buf.length + (bif w.Reader.In then 1 else 0)
structure WI (a : Bool) (m : Bytes) (w : S_wire_reading) : Prop where
 asks : w.Reader.Asks = a
 meth : w.Reader.Method = m
 bad : w.Reader.Bad = 0
 buf : w.Reader.Buf.length <= 50000
 cnt : w.out.length + mu w <= 1000000
 ou : w.Reader.In = false -> w.Reader.Head = bK /\ w.Reader.Body = B 0 0 /\ w.Reader.Chunk = aK
 inn : w.Reader.In = true -> RIn a m w.Reader.Head w.Reader.Body w.Reader.Chunk
inductive XOk (a : Bool) (m : Bytes) : S_Reader -> Prop
 | bad (e : Int) (he : e ≠ 0) : XOk a m (S_Reader.mk a m [] false bK (B 0 0) aK e)
 | out (b : Bytes) (hb : b.length <= 4000) : XOk a m (S_Reader.mk a m b false bK (B 0 0) aK 0)
 | inn (h : S_Message) (b : S_Body) (c : S_Chunked) (hr : RIn a m h b c) (h1 : b.Kind = 1 -> (h.Body.length : Int) < b.Size) (h0 : b.Kind ≠ 0) : XOk a m (S_Reader.mk a m [] true h b c 0)
theorem RIn.kind {a : Bool} {m : Bytes} {h : S_Message} {b : S_Body} {c : S_Chunked} (hr : RIn a m h b c) : tN a h b := by
 have := kO (asks := a) (m := m) (h := h) (by rw [hr.body])
 rw [hr.body] at this
 exact this
theorem cR (w : S_wire_reading) (e : Int) : wire_reading_fail w e = some (false, S_wire_reading.mk (S_Reader.mk w.Reader.Asks w.Reader.Method [] false bK (B 0 0) aK e) w.out) := rfl
theorem fJ {w : S_wire_reading} (h : w.out.length <= 1000000) : wire_reading_whole w = some (true, S_wire_reading.mk (S_Reader.mk w.Reader.Asks w.Reader.Method w.Reader.Buf false bK (B 0 0) aK w.Reader.Bad) (w.out ++ [w.Reader.Head])) := by
 unfold wire_reading_whole app
 rw [aB (by unfold maxLen; simp; omega), aD5]
 rfl
def yN (a : Bool) (m : Bytes) (w : S_wire_reading) (r : Bool × S_wire_reading) : Prop := (r.1 = true -> WI a m r.2 /\ mu r.2 < mu w) /\ (r.1 = false -> XOk a m r.2.Reader)
theorem aAp {a : Bool} {m : Bytes} {w : S_wire_reading} (hw : WI a m w) (hin : w.Reader.In = true) : Tot (wire_reading_more w) (yN a m w) := by
 obtain ⟨⟨A, M, Bf, I, H, Bd, C, E⟩, O⟩ := w
 obtain ⟨h1, h2, h3, h4, h5, _, h7⟩ := hw
 have hr := h7 hin
 simp only at h1 h2 h3 h4 h5 hin hr
 subst h1 h2 h3 hin
 have hO : O.length <= 1000000 := by unfold mu at h5; omega
 have hmu : mu (S_wire_reading.mk (S_Reader.mk A M Bf true H Bd C 0) O) = 2 * Bf.length + 1 := rfl
 rw [hmu] at h5
 have whole : ∀ (b : Bytes) (h : S_Message) (bd : S_Body) (c : S_Chunked), b.length <= Bf.length -> WI A M (S_wire_reading.mk (S_Reader.mk A M b false bK (B 0 0) aK 0) (O ++ [h])) /\ mu (S_wire_reading.mk (S_Reader.mk A M b false bK (B 0 0) aK 0) (O ++ [h])) < mu (S_wire_reading.mk (S_Reader.mk A M Bf true H Bd C 0) O) := fun b h bd c hb => by
  have e : mu (S_wire_reading.mk (S_Reader.mk A M b false bK (B 0 0) aK 0) (O ++ [h])) = 2 * b.length := rfl
  refine ⟨⟨rfl, rfl, rfl, by show b.length <= 50000; omega, ?_, fun _ => ⟨rfl, rfl, rfl⟩, fun h => by cases h⟩, by rw [e, hmu]; omega⟩
  rw [e]
  show (O ++ [h]).length + 2 * b.length <= 1000000
  simp
  omega
 unfold wire_reading_more
 rcases hr.kind.kind with rfl | ⟨z, hz0, hz1, rfl⟩ | rfl | rfl
 · -- none
  show Tot ((wire_reading_whole _).bind _) _
  rw [fJ hO, aD5]
  exact .now ⟨fun _ => whole Bf H (B 0 0) C (aD6 _), fun h => by cases h⟩
 · -- a size
  have hk1 : (H.Body.length : Int) <= z := hr.k1 rfl
  have hc : C = aK := hr.noch (by simp [B])
  show Tot ((slc Bf 0 (imin (Bf.length : Int) (IntKind.i64.wrap (z - (H.Body.length : Int))))).bind fun x2 => (cat H.Body x2).bind fun x3 => (slc Bf (imin (Bf.length : Int) (IntKind.i64.wrap (z - (H.Body.length : Int)))) (Bf.length : Int)).bind fun x4 => _) _
  rw [aC (by omega) (by omega)]
  obtain ⟨k, hk, hk1', hk2⟩ : ∃ k : Nat, imin (Bf.length : Int) (z - (H.Body.length : Int)) = (k : Int) /\ k <= Bf.length /\ ((k : Int) = z - (H.Body.length : Int) ∨ (k = Bf.length /\ (k : Int) <= z - (H.Body.length : Int))) := by
   rcases jL (Bf.length : Int) (z - (H.Body.length : Int)) with ⟨h1, h2⟩ | ⟨h1, h2⟩
   ·rw [h1]; exact ⟨Bf.length, rfl, aD6 _, .inr ⟨rfl, h2⟩⟩
   ·rw [h1]; exact ⟨(z - (H.Body.length : Int)).toNat, by omega, by omega, .inl (by omega)⟩
  rw [hk]
  have e1 : slc Bf 0 (k : Int) = some (Bf.take k) := by unfold slc; rw [aB (by omega)]; simp
  have e2 : slc Bf (k : Int) (Bf.length : Int) = some (Bf.drop k) := by
   unfold slc
   rw [aB (by omega)]
   show some ((Bf.drop k).take (Bf.length - k)) = _
   rw [aD9 (by simp)]
  have hl := hr.len
  have e3 : cat H.Body (Bf.take k) = some (H.Body ++ Bf.take k) := by unfold cat; rw [aB (by unfold maxLen; simp; omega)]
  rw [e1, aD5, e3, aD5, e2, aD5]
  have hlen : (H.Body ++ Bf.take k).length = H.Body.length + k := by simp; omega
  show Tot (bif (((H.Body ++ Bf.take k).length : Int) == z) then _ else _) _
  by_cases hd : ((H.Body ++ Bf.take k).length : Int) = z
  ·have e : (((H.Body ++ Bf.take k).length : Int) == z) = true := by simpa using hd
   rw [e, aDc, fJ hO, aD5]
   refine .now ⟨fun _ => whole (Bf.drop k) _ (B 1 z) C (by simp), fun h => ?_⟩
   have h' : (bif (((H.Body ++ Bf.take k).length : Int) == z) then true else false) = false := h
   rw [e] at h'
   cases h'
  ·have e : (((H.Body ++ Bf.take k).length : Int) == z) = false := by simpa using hd
   rw [e, aDd]
   have hkb : k = Bf.length := by rcases hk2 with h | h <;> omega
   have hdrop : Bf.drop k = [] := by rw [hkb]; simp
   refine .now ⟨fun h => (by cases h), fun _ => ?_⟩
   show XOk A M (S_Reader.mk A M (Bf.drop k) true (S_Message.mk H.Start H.Fields (H.Body ++ Bf.take k)) (B 1 z) C 0)
   rw [hdrop]
   have hb : eI A M (S_Message.mk H.Start H.Fields (H.Body ++ Bf.take k)) = (B 1 z, 0) := hr.body
   exact .inn _ _ _ ⟨hr.start, hr.fields, hb, by show (H.Body ++ Bf.take k).length <= 40000; omega, fun _ => hc, fun _ => by show ((H.Body ++ Bf.take k).length : Int) <= z; omega, fun h => (by cases h), fun h => (by cases h)⟩ (fun _ => by show ((H.Body ++ Bf.take k).length : Int) < z; omega) (by simp [B])
 · -- chunks
  obtain ⟨g1, g2, g3⟩ := hr.k2 rfl
  obtain ⟨x6, hx6, hq⟩ := qE (t := Bf) g1 (by omega)
  show Tot ((chunk_Feed C Bf).bind _) _
  rw [hx6, aD5]
  rcases hq with hq | hq
  ·have e : (x6.2.2.2 != (0 : Int)) = true := by simpa using hq
   rw [e, aDc, cR, aD5]
   exact .now ⟨fun h => (by cases h), fun _ => .bad _ hq⟩
  ·have e : (x6.2.2.2 != (0 : Int)) = false := by rw [hq.bad]; rfl
   rw [e, aDd]
   have hl := hr.len
   have hsz := hq.size
   have hso := hq.ok.size
   have e3 : cat H.Body x6.2.1 = some (H.Body ++ x6.2.1) := by unfold cat; rw [aB (by unfold maxLen; omega)]
   have ht := hq.took
   obtain ⟨k, hk⟩ : ∃ k : Nat, x6.2.2.1 = (k : Int) := ⟨x6.2.2.1.toNat, by omega⟩
   have e2 : slc Bf x6.2.2.1 (Bf.length : Int) = some (Bf.drop k) := by
    rw [hk]
    unfold slc
    rw [aB (by omega)]
    show some ((Bf.drop k).take (Bf.length - k)) = _
    rw [aD9 (by simp)]
   show Tot ((cat H.Body x6.2.1).bind _) _
   rw [e3, aD5]
   show Tot ((slc Bf x6.2.2.1 (Bf.length : Int)).bind _) _
   rw [e2, aD5]
   by_cases hs : x6.1.Stage = 4
   ·have e4 : (x6.1.Stage == (4 : Int)) = true := by simpa using hs
    rw [e4, aDc, fJ hO, aD5]
    exact .now ⟨fun _ => whole (Bf.drop k) _ (B 2 0) C (by simp), fun h => by cases h⟩
   ·have e4 : (x6.1.Stage == (4 : Int)) = false := by simpa using hs
    rw [e4, aDd]
    have hkl := hq.all hs
    have hdrop : Bf.drop k = [] := by rw [show k = Bf.length by omega]; simp
    refine .now ⟨fun h => (by cases h), fun _ => ?_⟩
    show XOk A M (S_Reader.mk A M (Bf.drop k) true (S_Message.mk H.Start H.Fields (H.Body ++ x6.2.1)) (B 2 0) x6.1 0)
    rw [hdrop]
    have hb : eI A M (S_Message.mk H.Start H.Fields (H.Body ++ x6.2.1)) = (B 2 0, 0) := hr.body
    have hlen : ((H.Body ++ x6.2.1).length : Int) = x6.1.Size := by rw [aEg, hsz, g3]; omega
    exact .inn _ _ _ ⟨hr.start, hr.fields, hb, by show (H.Body ++ x6.2.1).length <= 40000; omega, fun h => absurd rfl h, fun h => (by cases h), fun _ => ⟨hq.ok, hs, hlen.symm⟩, fun h => (by cases h)⟩ (fun h => by cases h) (by simp [B])
 · -- up to the end
  have hk3 := hr.k3 rfl
  have hc : C = aK := hr.noch (by simp [B])
  have e3 : cat H.Body Bf = some (H.Body ++ Bf) := by unfold cat; rw [aB (by unfold maxLen; omega)]
  show Tot ((cat H.Body Bf).bind _) _
  rw [e3, aD5]
  by_cases hd : ((H.Body ++ Bf).length : Int) > 20000
  ·rw [decide_eq_true hd, aDc, cR, aD5]
   exact .now ⟨fun h => (by cases h), fun _ => .bad _ (by simp)⟩
  ·rw [decide_eq_false hd, aDd]
   refine .now ⟨fun h => (by cases h), fun _ => ?_⟩
   have hb : eI A M (S_Message.mk H.Start H.Fields (H.Body ++ Bf)) = (B 3 0, 0) := hr.body
   exact .inn (S_Message.mk H.Start H.Fields (H.Body ++ Bf)) _ _ ⟨hr.start, hr.fields, hb, by show (H.Body ++ Bf).length <= 40000; omega, fun _ => hc, fun h => (by cases h), fun h => (by cases h), fun _ => by show (H.Body ++ Bf).length <= 20000; omega⟩ (fun h => by cases h) (by simp [B])
def bA (w : S_wire_reading) (b : Bytes) : S_wire_reading := S_wire_reading.mk (S_Reader.mk w.Reader.Asks w.Reader.Method b w.Reader.In w.Reader.Head w.Reader.Body w.Reader.Chunk w.Reader.Bad) w.out
noncomputable def aAq (w : S_wire_reading) (b : Bytes) : Option (S_wire_reading ⊕ S_wire_reading) :=
 (gcall w.Reader.Asks (strings_HasPrefix b ([10] : Bytes))).bind fun x3 => (gcall (w.Reader.Asks && (!x3)) (strings_HasPrefix b ([13, 10] : Bytes))).bind fun x4 =>
 bif (bif w.Reader.Asks then (bif x3 then true else x4) else false) then ((strings_TrimPrefix b ([13] : Bytes)).bind fun x5 => (strings_TrimPrefix x5 ([10] : Bytes)).bind fun x6 => some (.inl (bA w x6))) else some (.inr (bA w b))
theorem jM {s p : Bytes} (h : aQ s p = true) : p.length <= s.length := by
 unfold aQ at h
 obtain ⟨t, rfl⟩ := List.isPrefixOf_iff_prefix.1 h
 simp
theorem aAr {w : S_wire_reading} (hb : w.Reader.Buf.length <= 50000) : Tot (loopO wire_reading_begin_b1 w) (fun j => ∃ b : Bytes, j = bA w b /\ b.length <= w.Reader.Buf.length) := by
 refine kM (fun x : S_wire_reading => x.Reader.Buf.length) (fun x => ∃ b : Bytes, x = bA w b /\ b.length <= w.Reader.Buf.length) _ (fun x hx => ?_) w ⟨w.Reader.Buf, rfl, aD6 _⟩
 obtain ⟨b, rfl, hbl⟩ := hx
 unfold wire_reading_begin_b1
 suffices e : ∀ f : Option (S_wire_reading ⊕ S_wire_reading), f = aAq w b -> ((∃ y, f = some (Sum.inl y) /\ (∃ b : Bytes, y = bA w b /\ b.length <= w.Reader.Buf.length) /\ y.Reader.Buf.length < (bA w b).Reader.Buf.length) ∨ ∃ r, f = some (Sum.inr r) /\ ∃ b : Bytes, r = bA w b /\ b.length <= w.Reader.Buf.length) from e _ rfl
 intro f hf
 subst hf
 unfold aAq
 cases hA : w.Reader.Asks with
 | false =>
  right
  rw [dM rfl, aD5, dM (show (false && !(default : Bool)) = false from rfl), aD5]
  exact ⟨_, rfl, b, rfl, hbl⟩
 | true =>
  rw [bG rfl, bW, aD5]
  have big : b.length <= maxLen := by unfold maxLen; omega
  cases h1 : aQ b [10] with
  | true =>
   left
   rw [dM (show (true && !true) = false from rfl), aD5]
   have hl := jM h1
   have h13 : aQ b [13] = false := by
    rcases b with _ | ⟨x, b⟩
    ·rfl
    ·unfold aQ at h1 ⊢
     simp only [aEj, Bool.and_true, beq_iff_eq] at h1 ⊢
     subst h1
     rfl
   show ∃ y, ((strings_TrimPrefix b ([13] : Bytes)).bind fun x5 => (strings_TrimPrefix x5 ([10] : Bytes)).bind fun x6 => some (Sum.inl (bA w x6))) = some (Sum.inl y) /\ (∃ b : Bytes, y = bA w b /\ b.length <= w.Reader.Buf.length) /\ y.Reader.Buf.length < (bA w b).Reader.Buf.length
   rw [eB big, h13, aDd, aD5, eB big, h1, aDc, aD5]
   exact ⟨_, rfl, ⟨_, rfl, by simp; omega⟩, by show (b.drop _).length < b.length; simp at hl ⊢; omega⟩
  | false =>
   rw [bG (show (true && !false) = true from rfl), bW, aD5]
   cases h2 : aQ b [13, 10] with
   | false => right; exact ⟨_, rfl, b, rfl, hbl⟩
   | true =>
    left
    have hl := jM h2
    have h13 : aQ b [13] = true := by
     rcases b with _ | ⟨x, b⟩
     ·cases h2
     ·unfold aQ at h2 ⊢
      simp only [aEj, aD8, beq_iff_eq] at h2 ⊢
      exact ⟨h2.1, trivial⟩
    show ∃ y, ((strings_TrimPrefix b ([13] : Bytes)).bind fun x5 => (strings_TrimPrefix x5 ([10] : Bytes)).bind fun x6 => some (Sum.inl (bA w x6))) = some (Sum.inl y) /\ (∃ b : Bytes, y = bA w b /\ b.length <= w.Reader.Buf.length) /\ y.Reader.Buf.length < (bA w b).Reader.Buf.length
    rw [eB big, h13, aDc, aD5, eB (by simp; omega), aD5]
    refine ⟨_, rfl, ⟨_, rfl, ?_⟩, ?_⟩
    ·cases aQ (b.drop ([13] : Bytes).length) [10] <;> simp <;> omega
    ·show (bif aQ (b.drop ([13] : Bytes).length) [10] then _ else _ : Bytes).length < b.length
     cases aQ (b.drop ([13] : Bytes).length) [10] <;> simp at hl ⊢ <;> omega
noncomputable def begT (rd : Bytes -> Option (S_Start × Int)) (j1 : S_wire_reading) (e : Int) (x10 : Bytes × Bytes × Bool) : Option (Bool × S_wire_reading) :=
    (strings_TrimSuffix (x10.1) ([13] : Bytes)).bind fun x11 =>
    (rd x11).bind fun x12 =>
    bif ((x12.2) != (0 : Int)) then
     (wire_reading_fail (S_wire_reading.mk (S_Reader.mk ((j1.Reader).Asks) ((j1.Reader).Method) ((j1.Reader).Buf) ((j1.Reader).In) (S_Message.mk (x12.1) (((j1.Reader).Head).Fields) (((j1.Reader).Head).Body)) ((j1.Reader).Body) ((j1.Reader).Chunk) ((j1.Reader).Bad)) (j1.out)) (x12.2)).bind fun x13 =>
     some ((x13.1), (x13.2))
    else
     (strings_TrimSuffix (x10.2.1) ([10] : Bytes)).bind fun x14 =>
     (strings_TrimSuffix x14 ([13] : Bytes)).bind fun x15 =>
     (head_Parse x15).bind fun x16 =>
     bif ((x16.2) != (0 : Int)) then
      (wire_reading_fail (S_wire_reading.mk (S_Reader.mk ((j1.Reader).Asks) ((j1.Reader).Method) ((j1.Reader).Buf) ((j1.Reader).In) (S_Message.mk (x12.1) (x16.1) (((j1.Reader).Head).Body)) ((j1.Reader).Body) ((j1.Reader).Chunk) ((j1.Reader).Bad)) (j1.out)) (x16.2)).bind fun x17 =>
      some ((x17.1), (x17.2))
     else
      (wire_body (S_Reader.mk ((j1.Reader).Asks) ((j1.Reader).Method) ((j1.Reader).Buf) ((j1.Reader).In) (S_Message.mk (x12.1) (x16.1) (((j1.Reader).Head).Body)) ((j1.Reader).Body) ((j1.Reader).Chunk) ((j1.Reader).Bad))).bind fun x18 =>
      bif ((x18.2) != (0 : Int)) then
       (wire_reading_fail (S_wire_reading.mk (S_Reader.mk ((j1.Reader).Asks) ((j1.Reader).Method) ((j1.Reader).Buf) ((j1.Reader).In) (S_Message.mk (x12.1) (x16.1) (((j1.Reader).Head).Body)) (x18.1) ((j1.Reader).Chunk) ((j1.Reader).Bad)) (j1.out)) (x18.2)).bind fun x19 =>
       some ((x19.1), (x19.2))
      else
       (slc ((j1.Reader).Buf) e (((j1.Reader).Buf).length : Int)).bind fun x20 =>
       bif (bif (((x12.1).Code) != (0 : Int)) then (decide (((x12.1).Code) < (200 : Int))) else false) then
        some (true, (S_wire_reading.mk (S_Reader.mk ((j1.Reader).Asks) ((j1.Reader).Method) x20 ((j1.Reader).In) (S_Message.mk (S_Start.mk ([] : Bytes) ([] : Bytes) (0 : Int) ([] : Bytes) (0 : Int)) ([] : List S_Field) ([] : Bytes)) (S_Body.mk (0 : Int) (0 : Int)) ((j1.Reader).Chunk) ((j1.Reader).Bad)) (j1.out)))
       else
        some (true, (S_wire_reading.mk (S_Reader.mk ((j1.Reader).Asks) ((j1.Reader).Method) x20 true (S_Message.mk (x12.1) (x16.1) (((j1.Reader).Head).Body)) (x18.1) ((j1.Reader).Chunk) ((j1.Reader).Bad)) (j1.out)))
theorem kQ (w : S_wire_reading) : wire_reading_begin w = (loopO (wire_reading_begin_b1) w).bind fun j1 => (head_End ((j1.Reader).Buf)).bind fun x7 =>
 bif ((x7.2) == (3 : Int)) then some (false, j1)
 else bif ((x7.2) != (0 : Int)) then (wire_reading_fail j1 (x7.2)).bind fun x8 => some ((x8.1), (x8.2))
 else (slc ((j1.Reader).Buf) 0 (x7.1)).bind fun x9 => (strings_Cut x9 ([10] : Bytes)).bind fun x10 =>
  bif (j1.Reader).Asks then begT start_Parse j1 (x7.1) x10 else begT start_Status j1 (x7.1) x10 := rfl
def RdOk (a : Bool) (n : Nat) (r : S_Start × Int) : Prop := r.2 ≠ 0 ∨ (r.2 = 0 /\ aS r.1 = true /\ (r.1.Code == (0 : Int)) = a /\ d3 r.1)
theorem aBw (a : Bool) {l : Bytes} (hl : l.length <= 1000000) : Tot (bif a then start_Parse l else start_Status l) (RdOk a l.length) := by
 have hb : ∀ n : Nat, n <= l.length -> n <= maxLen := fun n h => by unfold maxLen; omega
 cases a with
 | true =>
  rw [aDc, oD hl]
  refine .now ?_
  rcases l5 l with ⟨s, h, h1, h2, h3, h4, h5⟩ | h
  ·rw [h]; exact .inr ⟨rfl, h1, by rw [h2]; rfl, ⟨hb _ h3, hb _ h4, by rw [h5]; unfold maxLen; simp⟩⟩
  ·rw [h]; exact .inl (by simp)
 | false =>
  rw [aDd, p7 hl]
  refine .now ?_
  rcases jX l with ⟨s, h, h1, h2, h3, h4, h5⟩ | h
  ·rw [h]; exact .inr ⟨rfl, h1, by simpa using h2, ⟨by rw [h3]; unfold maxLen; simp, by rw [h4]; unfold maxLen; simp, hb _ h5⟩⟩
  ·rw [h]; exact .inl (by simp)
theorem tR {a : Bool} {m : Bytes} {rd : Bytes -> Option (S_Start × Int)} {w j : S_wire_reading} {e : Int} {x : Bytes × Bytes × Bool} (hrd : ∀ l : Bytes, l.length <= 1000000 -> Tot (rd l) (RdOk a l.length)) (hw : WI a m w) (hin : w.Reader.In = false)
  (hj : ∃ b : Bytes, j = bA w b /\ b.length <= w.Reader.Buf.length) (he : 1 <= e /\ e <= (j.Reader.Buf.length : Int)) (hx : x.1.length <= 50000 /\ x.2.1.length <= 50000) : Tot (begT rd j e x) (yN a m w) := by
 obtain ⟨b, rfl, hbl⟩ := hj
 obtain ⟨⟨A, M, Bf, I, H, Bd, C, E⟩, O⟩ := w
 obtain ⟨h1, h2, h3, h4, h5, h6, _⟩ := hw
 have ho := h6 hin
 simp only at h1 h2 h3 h4 h5 hin ho hbl
 obtain ⟨o1, o2, o3⟩ := ho
 subst h1 h2 h3 hin o1 o2 o3
 have hmu : mu (S_wire_reading.mk (S_Reader.mk A M Bf false bK (B 0 0) aK 0) O) = 2 * Bf.length := rfl
 rw [hmu] at h5
 have heb : e <= (b.length : Int) := he.2
 have big : ∀ n : Nat, n <= 50000 -> n <= maxLen := fun n h => by unfold maxLen; omega
 unfold begT
 obtain ⟨x11, hx11, hl11⟩ := eU 13 (big _ hx.1)
 rw [hx11, aD5]
 obtain ⟨x12, hx12, hq⟩ := hrd x11 (by omega)
 rw [hx12, aD5]
 rcases hq with hq | ⟨q0, q1, q2, q3⟩
 ·have e1 : (x12.2 != (0 : Int)) = true := by simpa using hq
  rw [e1, aDc, cR, aD5]
  exact .now ⟨fun h => (by cases h), fun _ => .bad _ hq⟩
 have e1 : (x12.2 != (0 : Int)) = false := by rw [q0]; rfl
 rw [e1, aDd]
 obtain ⟨x14, hx14, hl14⟩ := eU 10 (big _ hx.2)
 rw [hx14, aD5]
 obtain ⟨x15, hx15, hl15⟩ := eU 13 (s := x14) (big _ (by omega))
 rw [hx15, aD5]
 obtain ⟨x16, hx16, hf, hfl⟩ := eV (s := x15) (by omega)
 rw [hx16, aD5]
 by_cases hb2 : x16.2 = 0
 ·have e2 : (x16.2 != (0 : Int)) = false := by rw [hb2]; rfl
  rw [e2, aDd]
  have hbody := kN (r := S_Reader.mk A M b false (S_Message.mk x12.1 x16.1 []) (B 0 0) aK 0) q3 hf
  show Tot ((wire_body (S_Reader.mk A M b false (S_Message.mk x12.1 x16.1 []) (B 0 0) aK 0)).bind _) _
  rw [hbody, aD5]
  generalize hbb : eI A M (S_Message.mk x12.1 x16.1 []) = bb
  by_cases hb3 : bb.2 = 0
  ·have e3 : (bb.2 != (0 : Int)) = false := by rw [hb3]; rfl
   show Tot (bif (bb.2 != (0 : Int)) then _ else _) _
   rw [e3, aDd]
   obtain ⟨k, hk⟩ : ∃ k : Nat, e = (k : Int) := ⟨e.toNat, by omega⟩
   have es : slc b e (b.length : Int) = some (b.drop k) := by
    rw [hk]
    unfold slc
    rw [aB (by omega)]
    show some ((b.drop k).take (b.length - k)) = _
    rw [aD9 (by simp)]
   show Tot ((slc b e (b.length : Int)).bind _) _
   rw [es, aD5]
   have hdl : (b.drop k).length + 1 <= Bf.length := by simp; omega
   refine Tot.br (fun _ => .now ⟨fun _ => ?_, fun h => (by cases h)⟩) (fun _ => .now ⟨fun _ => ?_, fun h => (by cases h)⟩)
   ·have hm2 : mu (S_wire_reading.mk (S_Reader.mk A M (b.drop k) false bK (B 0 0) aK 0) O) = 2 * (b.drop k).length := rfl
    exact ⟨⟨rfl, rfl, rfl, by show (b.drop k).length <= 50000; omega, by show O.length + mu (S_wire_reading.mk (S_Reader.mk A M (b.drop k) false bK (B 0 0) aK 0) O) <= _; rw [hm2]; omega, fun _ => ⟨rfl, rfl, rfl⟩, fun h => by cases h⟩, by show mu (S_wire_reading.mk (S_Reader.mk A M (b.drop k) false bK (B 0 0) aK 0) O) < _; rw [hm2, hmu]; omega⟩
   ·have hm2 : mu (S_wire_reading.mk (S_Reader.mk A M (b.drop k) true (S_Message.mk x12.1 x16.1 []) bb.1 aK 0) O) = 2 * (b.drop k).length + 1 := rfl
    refine ⟨⟨rfl, rfl, rfl, by show (b.drop k).length <= 50000; omega, by show O.length + mu (S_wire_reading.mk (S_Reader.mk A M (b.drop k) true (S_Message.mk x12.1 x16.1 []) bb.1 aK 0) O) <= _; rw [hm2]; omega, fun h => (by cases h), fun _ => ?_⟩, by show mu (S_wire_reading.mk (S_Reader.mk A M (b.drop k) true (S_Message.mk x12.1 x16.1 []) bb.1 aK 0) O) < _; rw [hm2, hmu]; omega⟩
    have hbe : eI A M (S_Message.mk x12.1 x16.1 []) = (bb.1, 0) := by rw [hbb, <- hb3]
    have hko := kO (asks := A) (m := M) (h := S_Message.mk x12.1 x16.1 []) (by rw [hbb]; exact hb3)
    rw [hbb] at hko
    show RIn A M (S_Message.mk x12.1 x16.1 []) bb.1 aK
    refine ⟨q3, hf, hbe, aD7 _, fun _ => rfl, fun hk1 => ?_, fun _ => ⟨kP, fun h => (by cases h), rfl⟩, fun _ => aD7 _⟩
    rcases hko.kind with h | ⟨z, hz0, _, h⟩ | h | h
    ·rw [h] at hk1; cases hk1
    ·show (([] : Bytes).length : Int) <= bb.1.Size
     rw [h]; simpa [B] using hz0
    ·rw [h] at hk1; cases hk1
    ·rw [h] at hk1; cases hk1
  ·have e3 : (bb.2 != (0 : Int)) = true := by simpa using hb3
   show Tot (bif (bb.2 != (0 : Int)) then _ else _) _
   rw [e3, aDc, cR, aD5]
   exact .now ⟨fun h => (by cases h), fun _ => .bad _ hb3⟩
 ·have e2 : (x16.2 != (0 : Int)) = true := by simpa using hb2
  rw [e2, aDc, cR, aD5]
  exact .now ⟨fun h => (by cases h), fun _ => .bad _ hb2⟩
theorem yO {a : Bool} {m : Bytes} {w : S_wire_reading} (hw : WI a m w) (hin : w.Reader.In = false) : Tot (wire_reading_begin w) (yN a m w) := by
 rw [kQ]
 refine Tot.bind (aAr hw.buf) (fun j hj => ?_)
 obtain ⟨b, hjb, hbl⟩ := hj
 have hjbuf : j.Reader.Buf = b := by rw [hjb]; rfl
 have hbuf := hw.buf
 obtain ⟨x7, hx7, hq⟩ := yI (s := j.Reader.Buf) (by rw [hjbuf]; omega)
 rw [hx7, aD5]
 have fin : ∀ e : Int, e ≠ 0 -> yN a m w (false, S_wire_reading.mk (S_Reader.mk j.Reader.Asks j.Reader.Method [] false bK (B 0 0) aK e) j.out) := fun e he => by
  refine ⟨fun h => (by cases h), fun _ => ?_⟩
  have ea : j.Reader.Asks = a := by rw [hjb]; exact hw.asks
  have em : j.Reader.Method = m := by rw [hjb]; exact hw.meth
  show XOk a m (S_Reader.mk j.Reader.Asks j.Reader.Method [] false bK (B 0 0) aK e)
  rw [ea, em]
  exact .bad e he
 rcases hq with ⟨h0, h1, h2⟩ | ⟨h3, h4⟩ | h5
 ·have e3 : (x7.2 == (3 : Int)) = false := by rw [h0]; rfl
  have e0 : (x7.2 != (0 : Int)) = false := by rw [h0]; rfl
  rw [e3, aDd, e0, aDd]
  have es : slc j.Reader.Buf 0 x7.1 = some (j.Reader.Buf.take x7.1.toNat) := by unfold slc; rw [aB (by omega)]; simp
  have hcl := l6 10 (j.Reader.Buf.take x7.1.toNat)
  have htl : (j.Reader.Buf.take x7.1.toNat).length <= 50000 := by rw [hjbuf]; simp; omega
  rw [es, aD5, g5 10 (by unfold maxLen; omega), aD5]
  have ha : j.Reader.Asks = a := by rw [hjb]; exact hw.asks
  rw [ha]
  have hrd := fun (l : Bytes) (hl : l.length <= 1000000) => aBw a hl
  cases a with
  | true => exact tR (fun l hl => hrd l hl) hw hin ⟨b, hjb, hbl⟩ ⟨h1, h2⟩ ⟨by omega, by omega⟩
  | false => exact tR (fun l hl => hrd l hl) hw hin ⟨b, hjb, hbl⟩ ⟨h1, h2⟩ ⟨by omega, by omega⟩
 ·rw [h3]
  refine .now ⟨fun h => (by cases h), fun _ => ?_⟩
  rw [hjbuf] at h4
  subst hjb
  obtain ⟨⟨A, M, Bf, I, H, Bd, C, E⟩, O⟩ := w
  obtain ⟨h1, h2, h3, _, _, h6, _⟩ := hw
  have ho := h6 hin
  simp only at h1 h2 h3 hin ho
  obtain ⟨o1, o2, o3⟩ := ho
  subst h1 h2 h3 hin o1 o2 o3
  exact .out b h4
 ·rw [h5]
  show Tot ((wire_reading_fail j 2).bind _) _
  rw [cR, aD5]
  exact .now (fin 2 (by simp))
theorem yP (h : S_Message) : Tot (wire_empty h) (fun b => b = true ↔ h = bK) := by
 unfold wire_empty
 refine .now ?_
 obtain ⟨⟨a, b, c, d, e⟩, f, g⟩ := h
 unfold bK dH
 cases f <;> simp [and_assoc] <;> intros <;> omega
theorem tS (r : S_Reader) : Tot (wire_bare r) (fun b => b = true ↔ (r.Buf = [] /\ r.In = false /\ r.Head = bK /\ r.Body = B 0 0 /\ r.Chunk = aK)) := by
 obtain ⟨A, M, Bf, I, H, ⟨k, z⟩, ⟨c1, c2, c3, c4⟩, E⟩ := r
 obtain ⟨x, hx, hi⟩ := yP H
 unfold wire_bare
 rw [show gcall _ (wire_empty (S_Reader.mk A M Bf I H (S_Body.mk k z) (S_Chunked.mk c1 c2 c3 c4) E).Head) = _ from aG (fun _ => hx), aD5]
 refine .now ?_
 unfold B aK
 dsimp only
 cases hb : (Bf == ([] : Bytes)) with
 | false =>
  have : Bf ≠ [] := by simpa using hb
  simp [this]
 | true =>
  have hb : Bf = [] := by simpa using hb
  cases I with
  | true => simp
  | false =>
   cases x with
   | false =>
    have : H ≠ bK := fun h => by have := hi.2 h; cases this
    simp [this]
   | true => simp [hb, hi.1 rfl, and_assoc]
theorem aAR (a b : S_Body) : ((a.Kind == b.Kind) && ((a.Size == b.Size) && true)) = true ↔ a = b := by
 obtain ⟨a1, a2⟩ := a
 obtain ⟨b1, b2⟩ := b
 simp
theorem aAS (c : S_Chunked) : ((c.Stage == (0 : Int)) && ((c.Line == ([] : Bytes)) && ((c.Left == (0 : Int)) && ((c.Size == (0 : Int)) && true)))) = true ↔ c = aK := by
 obtain ⟨c1, c2, c3, c4⟩ := c
 unfold aK
 simp
theorem yQ {r : S_Reader} (hs : d3 r.Head.Start) (hf : FRow r.Head.Fields) (hl : r.Head.Body.length <= 40000) : Tot (wire_Right r) (fun b => b = true ↔ XOk r.Asks r.Method r) := by
 obtain ⟨A, M, Bf, I, H, Bd, C, E⟩ := r
 simp only at hs hf hl
 unfold wire_Right
 dsimp only
 by_cases hE : E = 0
 ·subst hE
  rw [show ((0 : Int) != 0) = false from rfl, aDd]
  cases I with
  | false =>
   rw [show (!false) = true from rfl, aDc]
   obtain ⟨x, hx, hi⟩ := tS (S_Reader.mk A M [] false H Bd C 0)
   rw [hx, aD5]
   refine .now ⟨fun h => ?_, fun h => ?_⟩
   ·cases x with
    | false => cases h
    | true =>
     have hb : decide ((Bf.length : Int) <= 4000) = true := h
     have hb := of_decide_eq_true hb
     obtain ⟨_, _, h1, h2, h3⟩ := hi.1 rfl
     simp only at h1 h2 h3
     subst h1 h2 h3
     exact .out _ (by omega)
   ·have : H = bK /\ Bd = B 0 0 /\ C = aK /\ Bf.length <= 4000 := by
     cases h with
     | bad e he => exact absurd rfl he
     | out _ hb => exact ⟨rfl, rfl, rfl, hb⟩
    obtain ⟨rfl, rfl, rfl, hb⟩ := this
    rw [hi.2 ⟨rfl, rfl, rfl, rfl, rfl⟩, aDc]
    exact decide_eq_true (by omega)
  | true =>
   rw [show (!true) = false from rfl, aDd, kN (r := S_Reader.mk A M Bf true H Bd C 0) hs hf, aD5]
   show Tot (bif (bif (bif (bif (((eI A M H)).2 != (0 : Int)) then true else (!((((eI A M H).1.Kind) == (Bd.Kind)) && ((((eI A M H).1.Size) == (Bd.Size)) && true)))) then true else (!(Bf == ([] : Bytes)))) then true else (bif (((eI A M H).1.Kind) != (2 : Int)) then (!(((C.Stage) == (0 : Int)) && (((C.Line) == ([] : Bytes)) && (((C.Left) == (0 : Int)) && (((C.Size) == (0 : Int)) && true))))) else false)) then _ else _) _
   have key : XOk A M (S_Reader.mk A M Bf true H Bd C 0) -> eI A M H = (Bd, 0) /\ Bf = [] /\ RIn A M H Bd C /\ (Bd.Kind = 1 -> (H.Body.length : Int) < Bd.Size) /\ Bd.Kind ≠ 0 := fun h => by
    cases h with
    | inn _ _ _ hr h1 h0 => exact ⟨hr.body, rfl, hr, h1, h0⟩
   generalize hbb : eI A M H = bb at key ⊢
   by_cases h2 : bb.2 = 0
   ·rw [show (bb.2 != (0 : Int)) = false by rw [h2]; rfl, aDd]
    cases hb : ((bb.1.Kind == Bd.Kind) && ((bb.1.Size == Bd.Size) && true)) with
    | false =>
     refine .now ⟨fun h => (by cases h), fun h => ?_⟩
     have := (key h).1
     have : (bb.1.Kind == Bd.Kind) && ((bb.1.Size == Bd.Size) && true) := (aAR _ _).2 (by rw [this])
     rw [this] at hb
     cases hb
    | true =>
     have hb := (aAR _ _).1 hb
     subst hb
     rw [show (!true) = false from rfl, aDd]
     cases hf0 : (Bf == ([] : Bytes)) with
     | false =>
      refine .now ⟨fun h => (by cases h), fun h => ?_⟩
      have := (key h).2.1
      rw [this] at hf0
      cases hf0
     | true =>
      have hf0 : Bf = [] := by simpa using hf0
      subst hf0
      rw [show (!true) = false from rfl, aDd]
      have hbody : eI A M H = (bb.1, 0) := by rw [hbb, <- h2]
      have hko := (kO (asks := A) (m := M) (h := H) (by rw [hbody])).kind
      rw [hbody] at hko
      have hko : qC bb.1 := hko
      generalize bb.1 = Bd at *
      cases hc : (bif (Bd.Kind != (2 : Int)) then (!(((C.Stage) == (0 : Int)) && (((C.Line) == ([] : Bytes)) && (((C.Left) == (0 : Int)) && (((C.Size) == (0 : Int)) && true))))) else false) with
      | true =>
       refine .now ⟨fun h => (by cases h), fun h => ?_⟩
       have hr := (key h).2.2.1
       by_cases hk : Bd.Kind = 2
       ·rw [hk] at hc; cases hc
       ·have := hr.noch hk
        subst this
        rw [(aAS aK).2 rfl] at hc
        have e : (Bd.Kind != (2 : Int)) = true := by simpa using hk
        rw [e] at hc
        cases hc
      | false =>
       have hnc : Bd.Kind ≠ 2 -> C = aK := fun hk => by
        have e : (Bd.Kind != (2 : Int)) = true := by simpa using hk
        rw [e, aDc] at hc
        refine (aAS C).1 ?_
        simpa using hc
       rw [aDd]
       rcases hko with rfl | ⟨z, hz0, hz1, rfl⟩ | rfl | rfl
       ·refine .now ⟨fun h => (by cases h), fun h => absurd rfl (key h).2.2.2.2⟩
       ·refine .now ⟨fun h => ?_, fun h => ?_⟩
        ·have h := of_decide_eq_true h
         have h : (H.Body.length : Int) < z := h
         exact .inn _ _ _ ⟨hs, hf, hbody, hl, hnc, fun _ => by show (H.Body.length : Int) <= z; omega, fun h => (by cases h), fun h => (by cases h)⟩ (fun _ => h) (by simp [B])
        ·exact decide_eq_true ((key h).2.2.2.1 rfl)
       ·obtain ⟨x, hx, hi⟩ := r9 (c := C)
        show Tot ((chunk_Right C).bind _) _
        rw [hx, aD5]
        refine .now ⟨fun h => ?_, fun h => ?_⟩
        ·cases x with
         | false => cases h
         | true =>
          cases h4 : (C.Stage != (4 : Int)) with
          | false => rw [aDc, h4] at h; cases h
          | true =>
           rw [aDc, h4, aDc] at h
           exact .inn _ _ _ ⟨hs, hf, hbody, hl, hnc, fun h => (by cases h), fun _ => ⟨hi.1 rfl, by simpa using h4, by simpa using h⟩, fun h => (by cases h)⟩ (fun h => by cases h) (by simp [B])
        ·obtain ⟨g1, g2, g3⟩ := (key h).2.2.1.k2 rfl
         rw [hi.2 g1, aDc, show (C.Stage != (4 : Int)) = true by simpa using g2, aDc, g3]
         simp
       ·refine .now ⟨fun h => ?_, fun h => ?_⟩
        ·have h := of_decide_eq_true h
         exact .inn _ _ _ ⟨hs, hf, hbody, hl, hnc, fun h => (by cases h), fun h => (by cases h), fun _ => by omega⟩ (fun h => by cases h) (by simp [B])
        ·have := (key h).2.2.1.k3 rfl
         exact decide_eq_true (by omega)
   ·have e : (bb.2 != (0 : Int)) = true := by simpa using h2
    rw [e, aDc, aDc, aDc, aDc]
    refine .now ⟨fun h => (by cases h), fun h => ?_⟩
    have := (key h).1
    rw [this] at h2
    exact absurd rfl h2
 ·have e : (E != (0 : Int)) = true := by simpa using hE
  rw [e, aDc]
  obtain ⟨x, hx, hi⟩ := tS (S_Reader.mk A M Bf I H Bd C E)
  rw [hx, aD5]
  refine .now ⟨fun h => ?_, fun h => hi.2 ?_⟩
  ·obtain ⟨h1, h2, h3, h4, h5⟩ := hi.1 h
   simp only at h1 h2 h3 h4 h5
   subst h1 h2 h3 h4 h5
   exact .bad _ hE
  ·cases h with
   | bad => exact ⟨rfl, rfl, rfl, rfl, rfl⟩
   | out => exact absurd rfl hE
   | inn => exact absurd rfl hE
theorem d5 : d3 bK.Start /\ FRow bK.Fields := ⟨⟨aD7 _, aD7 _, aD7 _⟩, ⟨by simp [bK], fun f hf => by cases hf⟩⟩
theorem XOk.head {a : Bool} {m : Bytes} {r : S_Reader} (h : XOk a m r) : d3 r.Head.Start /\ FRow r.Head.Fields /\ r.Head.Body.length <= 40000 := by
 cases h with
 | bad => exact ⟨d5.1, d5.2, aD7 _⟩
 | out => exact ⟨d5.1, d5.2, aD7 _⟩
 | inn _ _ _ hr => exact ⟨hr.start, hr.fields, hr.len⟩
theorem XOk.asks {a : Bool} {m : Bytes} {r : S_Reader} (h : XOk a m r) : r.Asks = a /\ r.Method = m := by
 cases h <;> exact ⟨rfl, rfl⟩
theorem XOk.right {a : Bool} {m : Bytes} {r : S_Reader} (h : XOk a m r) : wire_Right r = some true := by
 obtain ⟨h1, h2, h3⟩ := h.head
 obtain ⟨x, hx, hi⟩ := yQ h1 h2 h3
 rw [hx, hi.2 (by rw [h.asks.1, h.asks.2]; exact h)]
theorem XOk.buf {a : Bool} {m : Bytes} {r : S_Reader} (h : XOk a m r) : r.Buf.length <= 4000 := by
 cases h with
 | bad => exact aD7 _
 | out _ hb => exact hb
 | inn => exact aD7 _
theorem XOk.body {a : Bool} {m : Bytes} {r : S_Reader} (h : XOk a m r) : r.Head.Body.length <= 20000 := by
 cases h with
 | bad => exact aD7 _
 | out => exact aD7 _
 | inn h b c hr h1 h0 =>
  show h.Body.length <= 20000
  rcases hr.kind.kind with rfl | ⟨z, hz0, hz1, rfl⟩ | rfl | rfl
  ·exact absurd rfl h0
  ·have : (h.Body.length : Int) < z := h1 rfl
   omega
  ·obtain ⟨g1, _, g3⟩ := hr.k2 rfl
   have := g1.size
   omega
  ·exact hr.k3 rfl
theorem aAs {r : S_Reader} {s : Bytes} (hr : XOk r.Asks r.Method r) (h0 : r.Bad ≠ 0) : wire_Feed r s = some (r, [], 0) := by
 unfold wire_Feed
 rw [hr.right, aD5, show (!true) = false from rfl, aDd, show (r.Bad != (0 : Int)) = true by simpa using h0, aDc]
theorem yR {r : S_Reader} (hr : wire_Right r = some true) (h0 : r.Bad ≠ 0) : wire_Close r = some ([], r.Bad) := by
 unfold wire_Close
 rw [hr, aD5, show (!true) = false from rfl, aDd, show (r.Bad != (0 : Int)) = true by simpa using h0, aDc]
def cS : Bytes := [71, 69, 84, 32, 47, 32, 72, 84, 84, 80, 47, 49, 46, 49]
def dJ : S_Start := S_Start.mk [71, 69, 84] [47] 0 [] 1
def rd0 (b : Bytes) : S_Reader := S_Reader.mk true [] b false bK (B 0 0) aK 0
theorem vM : start_Parse cS = some (dJ, 0) := by
 have hp : dD dJ = cS := by kernel_rfl
 rw [oD (by decide), <- hp, (print0 (s := dJ) (by kernel_rfl) rfl).1]
theorem qF {w : S_wire_reading} (h : wire_reading_begin_b1 w = some (.inr w)) : loopO wire_reading_begin_b1 w = some w := by rw [aT, h]
theorem sA : wire_reading_begin (S_wire_reading.mk (rd0 (cS ++ [13, 10, 13, 10])) []) = some (true, S_wire_reading.mk (S_Reader.mk true [] [] true (S_Message.mk dJ [] []) (B 0 0) aK 0) []) := by
 rw [kQ, qF (by kernel_rfl), aD5]
 have hE : head_End (S_wire_reading.mk (rd0 (cS ++ [13, 10, 13, 10])) []).Reader.Buf = some (18, 0) := by kernel_rfl
 rw [hE, aD5]
 have hS : slc (S_wire_reading.mk (rd0 (cS ++ [13, 10, 13, 10])) []).Reader.Buf 0 18 = some (cS ++ [13, 10, 13, 10]) := by kernel_rfl
 show ((slc (S_wire_reading.mk (rd0 (cS ++ [13, 10, 13, 10])) []).Reader.Buf 0 18).bind fun x9 => (strings_Cut x9 ([10] : Bytes)).bind fun x10 => begT start_Parse _ _ x10) = _
 rw [hS, aD5, g5 10 (by decide), aD5]
 have hC : cutC 10 (cS ++ [13, 10, 13, 10]) = (cS ++ [13], [13, 10], true) := by kernel_rfl
 rw [hC]
 unfold begT
 have h1 : strings_TrimSuffix (cS ++ [13], ([13, 10] : Bytes), true).1 ([13] : Bytes) = some cS := by kernel_rfl
 rw [h1, aD5, vM, aD5]
 rw [show ((dJ, (0 : Int)).2 != (0 : Int)) = false from rfl, aDd]
 have h2 : strings_TrimSuffix (cS ++ [13], ([13, 10] : Bytes), true).2.1 ([10] : Bytes) = some [13] := by kernel_rfl
 have h3 : strings_TrimSuffix ([13] : Bytes) ([13] : Bytes) = some [] := by kernel_rfl
 have h4 : head_Parse ([] : Bytes) = some ([], 0) := by kernel_rfl
 rw [h2, aD5, h3, aD5, h4, aD5]
 rw [show ((([] : List S_Field), (0 : Int)).2 != (0 : Int)) = false from rfl, aDd]
 have h5 : wire_body (S_Reader.mk true [] (cS ++ [13, 10, 13, 10]) false (S_Message.mk dJ [] []) (B 0 0) aK 0) = some (B 0 0, 0) := by
  rw [kN (r := S_Reader.mk true [] (cS ++ [13, 10, 13, 10]) false (S_Message.mk dJ [] []) (B 0 0) aK 0) ⟨by decide, by decide, by decide⟩ d5.2]
  kernel_rfl
 dsimp only [rd0, bK]
 rw [h5, aD5]
 rfl
theorem aAt : intarsialaw10_alive = some true := by
 have h0 : XOk true [] (rd0 []) := .out [] (by decide)
 have hF : wire_Feed (rd0 []) (cS ++ [13, 10, 13, 10]) = some (rd0 [], [S_Message.mk dJ [] []], 0) := by
  unfold wire_Feed
  rw [h0.right, aD5, show (!true) = false from rfl, aDd]
  show ((cat ([] : Bytes) (cS ++ [13, 10, 13, 10])).bind fun x2 => loopO (wire_Feed_b1) (S_wire_reading.mk (rd0 x2) [])) = _
  have hc : cat ([] : Bytes) (cS ++ [13, 10, 13, 10]) = some (cS ++ [13, 10, 13, 10]) := by kernel_rfl
  rw [hc, aD5, aT]
  unfold wire_Feed_b1
  rw [show (S_wire_reading.mk (rd0 (cS ++ [13, 10, 13, 10])) []).Reader.In = false from rfl, aDd, sA, aD5]
  show loopO wire_Feed_b1 _ = _
  rw [aT]
  unfold wire_Feed_b1
  dsimp only
  have hm : wire_reading_more (S_wire_reading.mk (S_Reader.mk true [] [] true (S_Message.mk dJ [] []) (B 0 0) aK 0) []) = some (true, S_wire_reading.mk (rd0 []) [S_Message.mk dJ [] []]) := by
   have e : wire_reading_more (S_wire_reading.mk (S_Reader.mk true [] [] true (S_Message.mk dJ [] []) (B 0 0) aK 0) []) = (wire_reading_whole (S_wire_reading.mk (S_Reader.mk true [] [] true (S_Message.mk dJ [] []) (B 0 0) aK 0) [])).bind fun x1 => some (x1.1, x1.2) := rfl
   rw [e, fJ (by decide), aD5]
   rfl
  rw [aDc, hm, aD5]
  show loopO wire_Feed_b1 _ = _
  rw [aT]
  unfold wire_Feed_b1
  rw [show (S_wire_reading.mk (rd0 []) [S_Message.mk dJ [] []]).Reader.In = false from rfl, aDd, kQ, qF (by kernel_rfl), aD5]
  have hE : head_End (S_wire_reading.mk (rd0 []) [S_Message.mk dJ [] []]).Reader.Buf = some (0, 3) := by kernel_rfl
  rw [hE]
  rfl
 unfold intarsialaw10_alive wire_New
 rw [aD5]
 have hF' : wire_Feed (S_Reader.mk true [] ([] : Bytes) false (S_Message.mk (S_Start.mk ([] : Bytes) ([] : Bytes) (0 : Int) ([] : Bytes) (0 : Int)) ([] : List S_Field) ([] : Bytes)) (S_Body.mk (0 : Int) (0 : Int)) (S_Chunked.mk (0 : Int) ([] : Bytes) (0 : Int) (0 : Int)) (0 : Int)) ([71, 69, 84, 32, 47, 32, 72, 84, 84, 80, 47, 49, 46, 49, 13, 10, 13, 10] : Bytes) = some (rd0 [], [S_Message.mk dJ [] []], 0) := hF
 rw [hF', aD5]
 show (gidx true [S_Message.mk dJ [] []] 0).bind _ = some true
 kernel_rfl
theorem fK {h : S_Message} (hl : h.Fields.length <= maxLen) : intarsiaref10_Like h h = some true := by
 unfold intarsiaref10_Like
 rw [aG (fun _ => yB hl), aD5]
 simp
theorem vN {r : S_Reader} (hl : r.Head.Fields.length <= maxLen) : intarsiaref10_LikeReader r r = some true := by
 unfold intarsiaref10_LikeReader
 rw [aG (fun _ => fK hl), aD5]
 simp
theorem eD {σ ρ : Type} {body : σ -> Option (σ ⊕ ρ)} (μ : σ -> Nat) (Inv : σ -> Prop) (V : σ -> Option ρ)
  (h : ∀ x, Inv x -> (∃ y, body x = some (.inl y) /\ Inv y /\ μ y < μ x /\ V x = V y) ∨ ∃ r, body x = some (.inr r) /\ V x = some r) : ∀ x, Inv x -> loopO body x = V x := by
 have key : ∀ n x, μ x <= n -> Inv x -> loopO body x = V x := by
  intro n
  induction n with
  | zero =>
   intro x hx hi
   rw [aT]
   rcases h x hi with ⟨y, h1, h2, h3, h4⟩ | ⟨r, h1, h2⟩
   ·omega
   ·rw [h1, h2]
  | succ n ih =>
   intro x hx hi
   rw [aT]
   rcases h x hi with ⟨y, h1, h2, h3, h4⟩ | ⟨r, h1, h2⟩
   ·rw [h1, h4]; exact ih y (by omega) h2
   ·rw [h1, h2]
 exact fun x => key (μ x) x (aD6 _)
theorem dR (c : UInt8) : ∀ s : Bytes, (cutC c s = (s, [], false) /\ s.contains c = false) ∨ ∃ u r, cutC c s = (u, r, true) /\ s = u ++ c :: r /\ u.contains c = false
 | [] => .inl ⟨rfl, rfl⟩
 | x :: s => by
  unfold cutC
  cases hx : (x == c) with
  | true => exact .inr ⟨[], s, rfl, by rw [eq_of_beq hx]; rfl, rfl⟩
  | false =>
   have hx' : (c == x) = false := by
    cases h : (c == x) with
    | false => rfl
    | true => rw [eq_of_beq h] at hx; simp at hx
   rcases dR c s with ⟨h1, h2⟩ | ⟨u, r, h1, h2, h3⟩
   ·left; rw [h1]; exact ⟨rfl, by rw [aEb, hx', h2]; rfl⟩
   ·right; rw [h1]; exact ⟨x :: u, r, rfl, by rw [h2]; rfl, by rw [aEb, hx', h3]; rfl⟩
abbrev CR : Type := Int ⊕ (S_Chunked × Bytes × Nat)
def cB (d : Bytes) (n : Nat) : CR -> CR
 | .inl e => .inl e
 | .inr r => .inr (r.1, d ++ r.2.1, r.2.2 + n)
theorem aBx : cB [] 0 = id := by funext x; cases x <;> rfl
theorem yS (d d' : Bytes) (n n' : Nat) (x : CR) : cB d n (cB d' n' x) = cB (d ++ d') (n' + n) x := by
 cases x with
 | inl e => rfl
 | inr r => unfold cB; simp [Nat.add_assoc]
theorem dN (d d' : Bytes) (n n' : Nat) (o : Option CR) : (o.map (cB d' n')).map (cB d n) = o.map (cB (d ++ d') (n' + n)) := by
 cases o with
 | none => rfl
 | some x => exact congrArg some (yS d d' n n' x)
def dat (c : S_Chunked) (k : Nat) : S_Chunked := bif c.Left - (k : Int) == 0 then S_Chunked.mk 2 c.Line (c.Left - (k : Int)) (c.Size + (k : Int)) else S_Chunked.mk c.Stage c.Line (c.Left - (k : Int)) (c.Size + (k : Int))
def addL (c : S_Chunked) (u : Bytes) : S_Chunked := S_Chunked.mk c.Stage (c.Line ++ u) c.Left c.Size
noncomputable def fOf (c : S_Chunked) : S_chunk_state -> Bytes -> Option (Unit × S_chunk_state) := bif c.Stage == (2 : Int) then chunk_state_end else bif c.Stage == (3 : Int) then chunk_state_tail else chunk_state_size
noncomputable def sB (c : S_Chunked) (l : Bytes) : Option S_chunk_state := (strings_TrimSuffix l [13]).bind fun x => (fOf c (S_chunk_state.mk (S_Chunked.mk c.Stage [] c.Left c.Size) 0) x).bind fun r => some r.2
noncomputable def cRun : S_Chunked -> Bytes -> Option CR
 | c, [] => some (.inr (c, [], 0))
 | c, x :: t =>
  bif c.Stage == (4 : Int) then some (.inr (c, [], 0)) else
  bif c.Stage == (1 : Int) then (cRun (dat c 1) t).map (cB [x] 1) else
  bif x == 10 then (sB c c.Line).bind fun st => bif st.bad != (0 : Int) then some (.inl st.bad) else (cRun st.Chunked t).map (cB [] 1) else
  bif decide (c.Line.length + 1 > 200) then some (.inl 33) else (cRun (addL c [x]) t).map (cB [] 1)
theorem kR (c : S_Chunked) : cRun c [] = some (.inr (c, [], 0)) := by unfold cRun; rfl
theorem mA {c : S_Chunked} (h : c.Stage = 4) (t : Bytes) : cRun c t = some (.inr (c, [], 0)) := by
 cases t with
 | nil => exact kR c
 | cons x t => unfold cRun; rw [h]; rfl
theorem iN {c : S_Chunked} (h : c.Stage = 1) (x : UInt8) (t : Bytes) : cRun c (x :: t) = (cRun (dat c 1) t).map (cB [x] 1) := by
 conv => lhs; unfold cRun
 rw [h]; rfl
theorem sC {c : S_Chunked} (h1 : c.Stage ≠ 1) (h4 : c.Stage ≠ 4) (t : Bytes) : cRun c (10 :: t) = (sB c c.Line).bind fun st => bif st.bad != (0 : Int) then some (.inl st.bad) else (cRun st.Chunked t).map (cB [] 1) := by
 conv => lhs; unfold cRun
 rw [show (c.Stage == (4 : Int)) = false by simpa using h4, show (c.Stage == (1 : Int)) = false by simpa using h1]; rfl
theorem oJ {c : S_Chunked} (h1 : c.Stage ≠ 1) (h4 : c.Stage ≠ 4) {x : UInt8} (hx : (x == 10) = false) (t : Bytes) : cRun c (x :: t) = bif decide (c.Line.length + 1 > 200) then some (.inl 33) else (cRun (addL c [x]) t).map (cB [] 1) := by
 conv => lhs; unfold cRun
 rw [show (c.Stage == (4 : Int)) = false by simpa using h4, show (c.Stage == (1 : Int)) = false by simpa using h1, hx]; rfl
theorem mB : ∀ (u : Bytes) (c : S_Chunked) (r : Bytes), c.Stage ≠ 1 -> c.Stage ≠ 4 -> u.contains 10 = false -> c.Line.length <= 200 -> cRun c (u ++ r) = bif decide (c.Line.length + u.length > 200) then some (.inl 33) else (cRun (addL c u) r).map (cB [] u.length)
 | [], c, r, h1, h4, hu, hl => by
  rw [decide_eq_false (by simp; omega), aDd]
  show cRun c r = (cRun (addL c []) r).map (cB [] 0)
  rw [aBx]
  have : addL c [] = c := by unfold addL; simp
  rw [this]
  cases cRun c r <;> rfl
 | x :: u, c, r, h1, h4, hu, hl => by
  rw [aEb, Bool.or_eq_false_iff] at hu
  have hx : (x == 10) = false := by
   cases h : (x == 10) with
   | false => rfl
   | true => rw [eq_of_beq h] at hu; simp at hu
  show cRun c (x :: (u ++ r)) = _
  rw [oJ h1 h4 hx]
  by_cases ho : c.Line.length + 1 > 200
  ·rw [decide_eq_true ho, decide_eq_true (by simp; omega)]; rfl
  ·have hl' : (addL c [x]).Line.length = c.Line.length + 1 := by unfold addL; simp
   rw [decide_eq_false ho, aDd, mB u (addL c [x]) r h1 h4 hu.2 (by rw [hl']; omega), hl']
   by_cases h2 : c.Line.length + 1 + u.length > 200
   ·rw [decide_eq_true h2, decide_eq_true (by simp; omega)]; rfl
   ·rw [decide_eq_false h2, decide_eq_false (by simp; omega), aDd, aDd, dN]
    have : addL (addL c [x]) u = addL c (x :: u) := by unfold addL; simp
    rw [this]; rfl
theorem qG : ∀ (v : Bytes) (c : S_Chunked) (r : Bytes), c.Stage = 1 -> v ≠ [] -> (v.length : Int) <= c.Left -> cRun c (v ++ r) = (cRun (dat c v.length) r).map (cB v v.length)
 | [], c, r, h1, hv, hl => absurd rfl hv
 | [x], c, r, h1, hv, hl => iN h1 x r
 | x :: y :: v, c, r, h1, hv, hl => by
  show cRun c (x :: (y :: v ++ r)) = _
  simp only [aEi] at hl
  have hd : dat c 1 = S_Chunked.mk c.Stage c.Line (c.Left - 1) (c.Size + 1) := by
   unfold dat
   rw [show (c.Left - ((1 : Nat) : Int) == 0) = false by simp; omega]; rfl
  rw [iN h1, hd, qG (y :: v) (S_Chunked.mk c.Stage c.Line (c.Left - 1) (c.Size + 1)) r h1 (by simp) (by simp; omega), dN]
  have : dat (S_Chunked.mk c.Stage c.Line (c.Left - 1) (c.Size + 1)) (y :: v).length = dat c (x :: y :: v).length := by
   unfold dat
   dsimp only
   have e1 : c.Left - 1 - (((y :: v).length : Nat) : Int) = c.Left - (((x :: y :: v).length : Nat) : Int) := by simp; omega
   have e2 : c.Size + 1 + (((y :: v).length : Nat) : Int) = c.Size + (((x :: y :: v).length : Nat) : Int) := by simp; omega
   rw [e1, e2]
  rw [this]; rfl
def toF : CR -> S_Chunked × Bytes × Int × Int
 | .inl e => (aK, [], 0, e)
 | .inr r => (r.1, r.2.1, (r.2.2 : Int), 0)
theorem line_eq' (o0 : S_chunk_state) (a1 : Bytes) : chunk_state_line o0 a1 = l8 (fOf o0.Chunked) o0 a1 := by
 rw [yL]
 unfold fOf
 cases (o0.Chunked.Stage == (2 : Int)) <;> cases (o0.Chunked.Stage == (3 : Int)) <;> rfl
theorem aAu {c : S_Chunked} {s : Bytes} (hs : s.contains 10 = false) (hl : c.Line.length <= 200) (hsl : s.length <= 1000000) (f : S_chunk_state -> Bytes -> Option (Unit × S_chunk_state)) : l8 f (S_chunk_state.mk c 0) s = bif decide (c.Line.length + s.length > 200) then some (0, S_chunk_state.mk c 33) else some ((s.length : Int), S_chunk_state.mk (addL c s) 0) := by
 have hn : Lib.indexByte s 10 = -1 := by
  have h1 := cP s 10
  have h2 := cQ s 10
  rw [hs] at h1
  have h1 := of_decide_eq_false h1
  omega
 unfold l8
 rw [cD, aD5, show u8 10 = (10 : UInt8) from rfl, hn]
 show (bif decide ((IntKind.i64.wrap (((c.Line).length : Int) + (s.length : Int))) > (200 : Int)) then _ else _) = _
 rw [aC (by omega) (by omega)]
 by_cases h : c.Line.length + s.length > 200
 ·rw [decide_eq_true h, decide_eq_true (by omega)]; rfl
 ·rw [decide_eq_false h, decide_eq_false (by omega), aDd, aDd]
  have hcat : cat c.Line s = some (c.Line ++ s) := by unfold cat; rw [aB (by unfold maxLen; omega)]
  show (cat c.Line s).bind _ = _
  rw [hcat]; rfl
theorem aAv {c : S_Chunked} {u r : Bytes} (hu : u.contains 10 = false) (hl : c.Line.length <= 200) (hsl : (u ++ 10 :: r).length <= 1000000) (f : S_chunk_state -> Bytes -> Option (Unit × S_chunk_state)) : l8 f (S_chunk_state.mk c 0) (u ++ 10 :: r) = bif decide (c.Line.length + u.length > 200) then some (0, S_chunk_state.mk c 33) else (strings_TrimSuffix (c.Line ++ u) [13]).bind fun x => (f (S_chunk_state.mk (S_Chunked.mk c.Stage [] c.Left c.Size) 0) x).bind fun q => some (((u.length + 1 : Nat) : Int), q.2) := by
 have hn : Lib.indexByte (u ++ 10 :: r) 10 = (u.length : Int) := by
  clear hl hsl
  induction u with
  | nil => simp [Lib.indexByte]
  | cons x u ih =>
   rw [aEb, Bool.or_eq_false_iff] at hu
   have hx : (x == 10) = false := by
    cases h : (x == 10) with
    | false => rfl
    | true => rw [eq_of_beq h] at hu; simp at hu
   show Lib.indexByte (x :: (u ++ 10 :: r)) 10 = _
   unfold Lib.indexByte
   rw [hx, ih hu.2]
   have : (((u.length : Nat) : Int) == -1) = false := by simp
   simp [this]
 simp only [aEg, aEi] at hsl
 unfold l8
 rw [cD, aD5, show u8 10 = (10 : UInt8) from rfl, hn]
 have hs : slc (u ++ 10 :: r) 0 (u.length : Int) = some u := by
  unfold slc
  rw [aB (by simp; omega)]
  simp
 rw [decide_eq_true (show ((u.length : Int) ≥ 0) by omega), aDc, hs, aD5]
 show (bif decide ((IntKind.i64.wrap (((c.Line).length : Int) + (u.length : Int))) > (200 : Int)) then _ else _) = _
 rw [aC (by omega) (by omega)]
 by_cases h : c.Line.length + u.length > 200
 ·rw [decide_eq_true h, decide_eq_true (by omega)]; rfl
 ·rw [decide_eq_false h, decide_eq_false (by omega), aDd, aDd]
  have hcat : cat c.Line u = some (c.Line ++ u) := by unfold cat; rw [aB (by unfold maxLen; omega)]
  show (cat c.Line u).bind _ = _
  rw [hcat, aD5, decide_eq_false (show ¬ ((u.length : Int) < 0) by omega), aDd, aC (by omega) (by omega)]
  rfl
theorem tT {c : S_Chunked} {t : Bytes} (hc : ChOk c) (ht : t.length <= 1000000) : chunk_Feed c t = (cRun c t).map toF := by
 unfold chunk_Feed
 obtain ⟨b, hb, hb2⟩ := r9 (c := c)
 rw [hb, hb2.2 hc, aD5]
 show loopO (chunk_Feed_b1 t) ((0 : Int), (S_chunk_state.mk c (0 : Int)), ([] : Bytes)) = _
 have key := eD (body := chunk_Feed_b1 t) (fun x : Int × S_chunk_state × Bytes => t.length - x.1.toNat)
  (fun x => ∃ (i : Nat) (c1 : S_Chunked), x.1 = (i : Int) /\ i <= t.length /\ x.2.1 = S_chunk_state.mk c1 0 /\ ChOk c1 /\ c1.Size = c.Size + (x.2.2.length : Int))
  (fun x => ((cRun x.2.1.Chunked (t.drop x.1.toNat)).map (cB x.2.2 x.1.toNat)).map toF) (fun x hx => ?_) ((0 : Int), (S_chunk_state.mk c (0 : Int)), ([] : Bytes)) ⟨0, c, rfl, aD7 _, rfl, hc, by simp⟩
 ·rw [key]
  show ((cRun c t).map (cB [] 0)).map toF = _
  rw [aBx]
  cases cRun c t <;> rfl
 obtain ⟨a, st, d⟩ := x
 obtain ⟨i, c1, h1, h2, h3, h4, h5⟩ := hx
 simp only at h1 h2 h3 h4 h5
 subst h1 h3
 have hdl : d.length <= 20000 := by have := h4.size; have := hc.size; omega
 have hfin : ((cRun c1 (t.drop ((i : Int)).toNat)).map (cB d ((i : Int)).toNat)).map toF = ((cRun c1 (t.drop i)).map (cB d i)).map toF := by rw [aEa]
 unfold chunk_Feed_b1
 dsimp only
 by_cases hlt : i < t.length
 ·rw [decide_eq_true (show (i : Int) < (t.length : Int) by omega), aDc]
  by_cases hs4 : c1.Stage = 4
  ·have e : (c1.Stage != (4 : Int)) = false := by simp [hs4]
   rw [e, aDd]
   refine .inr ⟨_, by unfold bcat; rw [if_pos (by simp; omega)]; rfl, ?_⟩
   rw [hfin, mA hs4]
   show some (c1, d ++ [], ((0 + i : Nat) : Int), (0 : Int)) = _
   simp
  ·have e : (c1.Stage != (4 : Int)) = true := by simp [hs4]
   rw [e, aDc]
   by_cases hs1 : c1.Stage = 1
   ·have e1 : (c1.Stage != (1 : Int)) = false := by simp [hs1]
    obtain ⟨g1, g2, g3⟩ := h4.data hs1
    have hsz := h4.size
    rw [e1, aDd]
    have ew : IntKind.i64.wrap ((t.length : Int) - i) = (t.length : Int) - i := aC (by omega) (by omega)
    rw [ew]
    obtain ⟨m, hm, hm1, hm2, hm3⟩ : ∃ m : Nat, imin c1.Left ((t.length : Int) - i) = (m : Int) /\ 1 <= m /\ (m : Int) <= c1.Left /\ i + m <= t.length := by
     rcases jL c1.Left ((t.length : Int) - i) with ⟨q1, q2⟩ | ⟨q1, q2⟩
     ·rw [q1]; exact ⟨c1.Left.toNat, by omega, by omega, by omega, by omega⟩
     ·rw [q1]; exact ⟨t.length - i, by omega, by omega, by omega, by omega⟩
    rw [hm]
    have ew2 : IntKind.i64.wrap ((i : Int) + m) = ((i + m : Nat) : Int) := by rw [aC (by omega) (by omega)]; omega
    have ew3 : IntKind.i64.wrap (c1.Left - m) = c1.Left - m := aC (by omega) (by omega)
    have ew4 : IntKind.i64.wrap (c1.Size + m) = c1.Size + m := aC (by omega) (by omega)
    rw [ew2, ew3, ew4]
    have hsl : slc t (i : Int) ((i + m : Nat) : Int) = some ((t.drop i).take m) := by
     unfold slc
     rw [aB (by omega)]
     show some ((t.drop i).take (i + m - i)) = _
     rw [Nat.add_sub_cancel_left]
    rw [hsl, aD5]
    have hxl : ((t.drop i).take m).length = m := by simp; omega
    have hbc : bcat d ((t.drop i).take m) = some (d ++ (t.drop i).take m) := by unfold bcat; rw [if_pos (by rw [hxl]; omega)]
    rw [hbc, aD5]
    have hsz2 : c1.Size + m = c.Size + ((d ++ (t.drop i).take m).length : Int) := by rw [aEg, hxl]; omega
    have hsplit : t.drop i = (t.drop i).take m ++ t.drop (i + m) := by rw [<- List.drop_drop, List.take_append_drop]
    have hrun : ((cRun c1 (t.drop i)).map (cB d i)).map toF = ((cRun (dat c1 m) (t.drop (i + m))).map (cB (d ++ (t.drop i).take m) (i + m))).map toF := by
     conv => lhs; rw [hsplit]
     rw [qG _ _ _ hs1 (fun h => by rw [h] at hxl; simp at hxl; omega) (by rw [hxl]; exact hm2), dN, hxl]
     rw [Nat.add_comm m i]
    by_cases h0 : c1.Left - m = 0
    ·have e0 : ((c1.Left - (m : Int)) == (0 : Int)) = true := by simp [h0]
     have hd : dat c1 m = S_Chunked.mk 2 c1.Line (c1.Left - m) (c1.Size + m) := by unfold dat; rw [e0]; rfl
     rw [e0, aDc]
     refine .inl ⟨_, rfl, ⟨i + m, dat c1 m, rfl, by omega, by rw [hd], ?_, ?_⟩, by show t.length - ((i + m : Nat) : Int).toNat < t.length - ((i : Nat) : Int).toNat; omega, ?_⟩
     ·rw [hd]; exact ⟨by simp, by show 0 <= c1.Size + (m : Int) /\ c1.Size + (m : Int) <= 20000; omega, h4.line, fun h => (by cases h), fun _ => ⟨h0, fun h => by cases h⟩⟩
     ·rw [hd]; exact hsz2
     ·rw [hfin, hrun, hd]
      rfl
    ·have e0 : ((c1.Left - (m : Int)) == (0 : Int)) = false := by simp [h0]
     have hd : dat c1 m = S_Chunked.mk c1.Stage c1.Line (c1.Left - m) (c1.Size + m) := by unfold dat; rw [e0]; rfl
     rw [e0, aDd]
     refine .inl ⟨_, rfl, ⟨i + m, dat c1 m, rfl, by omega, by rw [hd], ?_, ?_⟩, by show t.length - ((i + m : Nat) : Int).toNat < t.length - ((i : Nat) : Int).toNat; omega, ?_⟩
     ·rw [hd]; exact ⟨h4.stage, by show 0 <= c1.Size + (m : Int) /\ c1.Size + (m : Int) <= 20000; omega, h4.line, fun _ => ⟨by show 1 <= c1.Left - (m : Int); omega, by show c1.Left - (m : Int) <= 20000 - (c1.Size + (m : Int)); omega, g3⟩, fun h => absurd hs1 h⟩
     ·rw [hd]; exact hsz2
     ·rw [hfin, hrun, hd]
      rfl
   ·have e1 : (c1.Stage != (1 : Int)) = true := by simp [hs1]
    rw [e1, aDc]
    have hsl : slc t (i : Int) (t.length : Int) = some (t.drop i) := by
     unfold slc
     rw [aB (by omega)]
     show some ((t.drop i).take (t.length - i)) = _
     rw [aD9 (by simp)]
    rw [hsl, aD5]
    have hxl : (t.drop i).length = t.length - i := by simp
    obtain ⟨x6, hx6, hq⟩ := tQ (a1 := t.drop i) h4 hs1 hs4 (by rw [hxl]; omega) (by rw [hxl]; omega)
    have hll := h4.line.1
    rw [hx6, aD5]
    rw [line_eq'] at hx6
    have hx6 : l8 (fOf c1) (S_chunk_state.mk c1 0) (t.drop i) = some x6 := hx6
    rcases dR 10 (t.drop i) with ⟨_, hno⟩ | ⟨u, r, _, hsp, hu⟩
    ·rw [aAu hno hll (by omega)] at hx6
     have hrun := mB (t.drop i) c1 [] hs1 hs4 hno hll
     rw [aEn] at hrun
     by_cases hov : c1.Line.length + (t.drop i).length > 200
     ·rw [decide_eq_true hov, aDc] at hx6 hrun
      cases hx6
      refine .inr ⟨_, rfl, ?_⟩
      rw [hfin, hrun]; rfl
     ·rw [decide_eq_false hov, aDd] at hx6 hrun
      cases hx6
      have ew : IntKind.i64.wrap ((i : Int) + (((t.drop i).length : Nat) : Int)) = ((t.length : Nat) : Int) := by rw [aC (by omega) (by omega)]; omega
      rcases hq with hq | ⟨_, _, _, q4, q5⟩
      ·exact absurd rfl hq
      refine .inl ⟨_, rfl, ⟨t.length, addL c1 (t.drop i), ew, aD6 _, rfl, q4, by show (addL c1 (t.drop i)).Size = _; rw [q5]; exact h5⟩, ?_, ?_⟩
      ·show t.length - (IntKind.i64.wrap ((i : Int) + (((t.drop i).length : Nat) : Int))).toNat < t.length - ((i : Nat) : Int).toNat
       rw [ew]; omega
      ·rw [hfin, hrun, dN]
       show _ = ((cRun (addL c1 (t.drop i)) (t.drop (IntKind.i64.wrap ((i : Int) + (((t.drop i).length : Nat) : Int))).toNat)).map (cB d (IntKind.i64.wrap ((i : Int) + (((t.drop i).length : Nat) : Int))).toNat)).map toF
       rw [ew, aEa, List.drop_length, aEn, hxl, Nat.sub_add_cancel (by omega)]
    ·rw [hsp, aAv hu hll (by rw [<- hsp]; omega)] at hx6
     have hrun := mB u c1 (10 :: r) hs1 hs4 hu hll
     rw [<- hsp] at hrun
     by_cases hov : c1.Line.length + u.length > 200
     ·rw [decide_eq_true hov, aDc] at hx6 hrun
      cases hx6
      refine .inr ⟨_, rfl, ?_⟩
      rw [hfin, hrun]; rfl
     ·rw [decide_eq_false hov, aDd] at hx6 hrun
      rw [sC (c := addL c1 u) hs1 hs4] at hrun
      have hF : sB (addL c1 u) (addL c1 u).Line = some x6.2 /\ x6.1 = ((u.length + 1 : Nat) : Int) := by
       unfold sB
       show ((strings_TrimSuffix (c1.Line ++ u) [13]).bind fun x => (fOf c1 (S_chunk_state.mk (S_Chunked.mk c1.Stage [] c1.Left c1.Size) 0) x).bind fun r => some r.2) = some x6.2 /\ _
       cases h1 : strings_TrimSuffix (c1.Line ++ u) [13] with
       | none => rw [h1] at hx6; cases hx6
       | some x =>
        rw [h1, aD5] at hx6
        rw [aD5]
        cases h2 : fOf c1 (S_chunk_state.mk (S_Chunked.mk c1.Stage [] c1.Left c1.Size) 0) x with
        | none => rw [h2] at hx6; cases hx6
        | some q => rw [h2] at hx6; cases hx6; exact ⟨rfl, rfl⟩
      rw [hF.1, aD5] at hrun
      have hul : i + u.length + 1 + r.length = t.length := by
       have := congrArg List.length hsp
       simp at this
       omega
      rcases hq with hq | ⟨_, _, q3, q4, q5⟩
      ·have e2 : (x6.2.bad != (0 : Int)) = true := by simpa using hq
       rw [e2, aDc]
       rw [e2, aDc] at hrun
       refine .inr ⟨_, rfl, ?_⟩
       rw [hfin, hrun]; rfl
      ·have e2 : (x6.2.bad != (0 : Int)) = false := by simp [q3]
       rw [e2, aDd]
       rw [e2, aDd] at hrun
       have ew : IntKind.i64.wrap ((i : Int) + x6.1) = ((i + u.length + 1 : Nat) : Int) := by rw [hF.2, aC (by omega) (by omega)]; omega
       have hdr : t.drop (i + u.length + 1) = r := by
        rw [Nat.add_assoc, <- List.drop_drop, hsp]
        simp
       obtain ⟨y1, ⟨y2, y3⟩⟩ := x6
       simp only at q3 q4 q5 ew hrun
       subst q3
       refine .inl ⟨_, rfl, ⟨i + u.length + 1, y2, ew, by omega, rfl, q4, by show y2.Size = _; rw [q5]; exact h5⟩, ?_, ?_⟩
       ·show t.length - (IntKind.i64.wrap ((i : Int) + y1)).toNat < t.length - ((i : Nat) : Int).toNat
        rw [ew]; omega
       ·rw [hfin, hrun, dN, dN]
        show _ = ((cRun y2 (t.drop (IntKind.i64.wrap ((i : Int) + y1)).toNat)).map (cB d (IntKind.i64.wrap ((i : Int) + y1)).toNat)).map toF
        rw [ew, aEa, hdr, aEn, aEn]
        have : 1 + (u.length + i) = i + u.length + 1 := by omega
        rw [this]
 ·rw [decide_eq_false (show ¬ (i : Int) < (t.length : Int) by omega), aDd]
  refine .inr ⟨_, by unfold bcat; rw [if_pos (by simp; omega)]; rfl, ?_⟩
  rw [hfin, show t.drop i = [] by simp; omega, kR]
  show some (c1, d ++ [], ((0 + i : Nat) : Int), (0 : Int)) = _
  simp
noncomputable def vO (s : Bytes) : Bytes := (strings_TrimSuffix s [13]).getD []
theorem oK {s : Bytes} (hs : s.length <= maxLen) : strings_TrimSuffix s [13] = some (vO s) := by
 obtain ⟨x, hx, _⟩ := eU 13 hs
 unfold vO
 rw [hx]; rfl
noncomputable def c6 : Bytes -> Nat -> Bytes -> List (Bytes × Int)
 | _, _, [] => []
 | acc, a, x :: s => bif x == 10 then (vO acc, ((a + 1 : Nat) : Int)) :: c6 [] (a + 1) s else c6 (acc ++ [x]) (a + 1) s
theorem d6 (acc : Bytes) (a : Nat) : c6 acc a [] = [] := by unfold c6; rfl
theorem c7 (acc : Bytes) (a : Nat) (x : UInt8) (s : Bytes) : c6 acc a (x :: s) = bif x == 10 then (vO acc, ((a + 1 : Nat) : Int)) :: c6 [] (a + 1) s else c6 (acc ++ [x]) (a + 1) s := by
 conv => lhs; unfold c6
theorem dS : ∀ (u acc : Bytes) (a : Nat) (r : Bytes), u.contains 10 = false -> c6 acc a (u ++ r) = c6 (acc ++ u) (a + u.length) r
 | [], acc, a, r, _ => by simp
 | x :: u, acc, a, r, hu => by
  rw [aEb, Bool.or_eq_false_iff] at hu
  have hx : (x == 10) = false := by
   cases h : (x == 10) with
   | false => rfl
   | true => rw [eq_of_beq h] at hu; simp at hu
  rw [List.cons_append, c7, hx, aDd, dS u _ _ r hu.2]
  have e1 : acc ++ [x] ++ u = acc ++ x :: u := by simp
  have e2 : a + 1 + u.length = a + (x :: u).length := by simp; omega
  rw [e1, e2]
theorem qH {u : Bytes} (r : Bytes) (hu : u.contains 10 = false) : Lib.indexByte (u ++ 10 :: r) 10 = (u.length : Int) := by
 induction u with
 | nil => simp [Lib.indexByte]
 | cons x u ih =>
  rw [aEb, Bool.or_eq_false_iff] at hu
  have hx : (x == 10) = false := by
   cases h : (x == 10) with
   | false => rfl
   | true => rw [eq_of_beq h] at hu; simp at hu
  show Lib.indexByte (x :: (u ++ 10 :: r)) 10 = _
  unfold Lib.indexByte
  rw [hx, ih hu.2]
  have : (((u.length : Nat) : Int) == -1) = false := by simp
  simp [this]
theorem tU {s : Bytes} (hs : s.length <= 1000000) : ∀ (k : Nat) (a : Nat), a <= s.length -> s.length < k + a -> bD s k (a : Int) = some (c6 [] a (s.drop a)) := by
 intro k
 induction k with
 | zero => intro a ha h; omega
 | succ k ih =>
  intro a ha h
  unfold bD
  by_cases hd : a < s.length
  ·rw [decide_eq_true (show (a : Int) < (s.length : Int) by omega), aDc]
   have hsl : slc s (a : Int) (s.length : Int) = some (s.drop a) := by
    unfold slc
    rw [aB (by omega)]
    show some ((s.drop a).take (s.length - a)) = _
    rw [aD9 (by simp)]
   rw [hsl, aD5, cD, aD5, show u8 10 = (10 : UInt8) from rfl]
   have hxl : (s.drop a).length = s.length - a := by simp
   rcases dR 10 (s.drop a) with ⟨_, hno⟩ | ⟨u, r, _, hsp, hu⟩
   ·have hn : Lib.indexByte (s.drop a) 10 = -1 := by
     have h1 := cP (s.drop a) 10
     have h2 := cQ (s.drop a) 10
     rw [hno] at h1
     have h1 := of_decide_eq_false h1
     omega
    rw [hn]
    show some [] = some (c6 [] a (s.drop a))
    have := dS (s.drop a) [] a [] hno
    rw [aEn] at this
    rw [this, d6]
   ·have hn : Lib.indexByte (u ++ 10 :: r) 10 = (u.length : Int) := by
     exact qH r hu
    have hul : a + u.length + 1 + r.length = s.length := by
     have := congrArg List.length hsp
     simp at this
     omega
    have hdr : s.drop (a + u.length + 1) = r := by
     rw [Nat.add_assoc, <- List.drop_drop, hsp]
     simp
    have hus : slc s (a : Int) (((a + u.length : Nat)) : Int) = some u := by
     unfold slc
     rw [aB (by omega)]
     show some ((s.drop a).take (a + u.length - a)) = _
     rw [hsp, Nat.add_sub_cancel_left]
     simp
    rw [hsp, hn, decide_eq_false (show ¬ ((u.length : Nat) : Int) < 0 by omega), aDd]
    have w1 : IntKind.i64.wrap ((a : Int) + ((u.length : Nat) : Int)) = ((a + u.length : Nat) : Int) := by rw [aC (by omega) (by omega)]; omega
    have w2 : IntKind.i64.wrap (((u.length : Nat) : Int) + 1) = ((u.length : Nat) : Int) + 1 := aC (by omega) (by omega)
    have w3 : IntKind.i64.wrap ((a : Int) + (((u.length : Nat) : Int) + 1)) = ((a + u.length + 1 : Nat) : Int) := by rw [aC (by omega) (by omega)]; omega
    rw [w1, w2, w3, hus, aD5, oK (by unfold maxLen; omega), aD5, ih (a + u.length + 1) (by omega) (by omega), aD5, hdr, dS u [] a _ hu, List.nil_append, c7]
    rfl
  ·rw [decide_eq_false (show ¬ (a : Int) < (s.length : Int) by omega), aDd, show s.drop a = [] by simp; omega]
   rw [d6]
noncomputable def endB (s : Bytes) : Int × Int := aJ s.length (c6 [] 0 s)
theorem nG {s : Bytes} (hs : s.length <= 1000000) : head_End s = some (endB s) := by
 unfold head_End bU endB
 have := tU hs (s.length + 1) 0 (aD7 _) (by omega)
 rw [show bD s (s.length + 1) 0 = some (c6 [] 0 (s.drop 0)) from this]; rfl
theorem tV (n : Nat) : aJ n [] = bif decide ((n : Int) > 4000) then (0, 2) else (0, 3) := rfl
theorem qI (n : Nat) (line : Bytes) (a : Int) (l : List (Bytes × Int)) : aJ n ((line, a) :: l) = bif decide (a > 4000) then (0, 2) else bif line == [] then (a, 0) else aJ n l := rfl
theorem vP {s : Bytes} (hs : s.length <= 1000000) : ((endB s).2 = 0 /\ 1 <= (endB s).1 /\ (endB s).1 <= (s.length : Int)) ∨ (endB s = (0, 3) /\ s.length <= 4000) ∨ endB s = (0, 2) := by
 obtain ⟨x, hx, h⟩ := yI hs
 rw [nG hs] at hx
 cases hx
 exact h
def dO : Bytes -> Bytes
 | [] => []
 | x :: s => bif x == 10 then dO s else bif x == 13 then (match s with | [] => [x] | y :: s' => bif y == 10 then dO s' else x :: y :: s') else x :: s
theorem tW (s : Bytes) : dO (10 :: s) = dO s := by
 conv => lhs; unfold dO
 rfl
theorem nH (s : Bytes) : dO (13 :: 10 :: s) = dO s := by
 conv => lhs; unfold dO
 rfl
theorem tX {s : Bytes} (h1 : aQ s [10] = false) (h2 : aQ s [13, 10] = false) : dO s = s := by
 rcases s with _ | ⟨x, s⟩
 ·rfl
 ·unfold dO
  have hx : (x == 10) = false := by
   cases h : (x == 10) with
   | false => rfl
   | true => rw [eq_of_beq h] at h1; exact absurd h1 (by simp [aQ])
  rw [hx, aDd]
  cases h : (x == 13) with
  | false => rfl
  | true =>
   rw [aDc]
   rcases s with _ | ⟨y, s⟩
   ·rfl
   ·have hy : (y == 10) = false := by
     cases h' : (y == 10) with
     | false => rfl
     | true => rw [eq_of_beq h, eq_of_beq h'] at h2; exact absurd h2 (by simp [aQ])
    show (bif y == 10 then dO s else x :: y :: s) = x :: y :: s
    rw [hy]; rfl
theorem aAT {s : Bytes} (h : aQ s [10] = true) : ∃ t, s = 10 :: t := by
 unfold aQ at h
 obtain ⟨t, rfl⟩ := List.isPrefixOf_iff_prefix.1 h
 exact ⟨t, rfl⟩
theorem tY {s : Bytes} (h : aQ s [13, 10] = true) : ∃ t, s = 13 :: 10 :: t := by
 unfold aQ at h
 obtain ⟨t, rfl⟩ := List.isPrefixOf_iff_prefix.1 h
 exact ⟨t, rfl⟩
theorem yT : ∀ (n : Nat) (b : Bytes), b.length <= n -> (dO b).length <= b.length := by
 intro n
 induction n with
 | zero =>
  intro b hb
  have : b = [] := List.eq_nil_of_length_eq_zero (by omega)
  subst this; exact aD6 _
 | succ n ih =>
  intro b hb
  cases h1 : aQ b [10] with
  | true =>
   obtain ⟨s, rfl⟩ := aAT h1
   simp only [aEi] at hb
   rw [tW]
   have := ih s (by omega); simp; omega
  | false =>
   cases h2 : aQ b [13, 10] with
   | true =>
    obtain ⟨s, rfl⟩ := tY h2
    simp only [aEi] at hb
    rw [nH]
    have := ih s (by omega); simp; omega
   | false => rw [tX h1 h2]; exact aD6 _
def skB (a : Bool) (b : Bytes) : Bytes := bif a then dO b else b
theorem aBy {w : S_wire_reading} (hb : w.Reader.Buf.length <= 50000) : loopO wire_reading_begin_b1 w = some (bA w (skB w.Reader.Asks w.Reader.Buf)) := by
 refine eD (fun x : S_wire_reading => x.Reader.Buf.length) (fun x => x.Reader.Buf.length <= 50000) (fun x => some (bA x (skB x.Reader.Asks x.Reader.Buf))) (fun x hx => ?_) w hb
 unfold wire_reading_begin_b1
 suffices e : ∀ f : Option (S_wire_reading ⊕ S_wire_reading), f = aAq x x.Reader.Buf -> ((∃ y, f = some (Sum.inl y) /\ y.Reader.Buf.length <= 50000 /\ y.Reader.Buf.length < x.Reader.Buf.length /\ some (bA x (skB x.Reader.Asks x.Reader.Buf)) = some (bA y (skB y.Reader.Asks y.Reader.Buf))) ∨ ∃ r, f = some (Sum.inr r) /\ some (bA x (skB x.Reader.Asks x.Reader.Buf)) = some r) from e _ rfl
 intro f hf
 subst hf
 unfold aAq
 cases hA : x.Reader.Asks with
 | false =>
  right
  rw [dM rfl, aD5, dM (show (false && !(default : Bool)) = false from rfl), aD5]
  exact ⟨_, rfl, rfl⟩
 | true =>
  have big : x.Reader.Buf.length <= maxLen := by unfold maxLen; omega
  show (∃ y, _ /\ _ /\ _ /\ some (bA x (dO x.Reader.Buf)) = some (bA y (skB y.Reader.Asks y.Reader.Buf))) ∨ ∃ r, _ /\ some (bA x (dO x.Reader.Buf)) = some r
  have hset : ∀ b : Bytes, skB (bA x b).Reader.Asks (bA x b).Reader.Buf = dO b := fun b => by show skB x.Reader.Asks b = _; rw [hA]; rfl
  rw [bG rfl, bW, aD5]
  cases h1 : aQ x.Reader.Buf [10] with
  | true =>
   left
   rw [dM (show (true && !true) = false from rfl), aD5]
   have hl := jM h1
   obtain ⟨s, hs⟩ := aAT h1
   have h13 : aQ x.Reader.Buf [13] = false := by rw [hs]; rfl
   show ∃ y, ((strings_TrimPrefix x.Reader.Buf ([13] : Bytes)).bind fun x5 => (strings_TrimPrefix x5 ([10] : Bytes)).bind fun x6 => some (Sum.inl (bA x x6))) = some (Sum.inl y) /\ _
   rw [eB big, h13, aDd, aD5, eB big, h1, aDc, aD5]
   have hd : x.Reader.Buf.drop ([10] : Bytes).length = s := by rw [hs]; rfl
   rw [hd]
   have hsl : s.length + 1 = x.Reader.Buf.length := by rw [hs]; rfl
   refine ⟨_, rfl, by show s.length <= _; omega, by show s.length < _; omega, ?_⟩
   rw [hset, hs, tW]
   rfl
  | false =>
   rw [bG (show (true && !false) = true from rfl), bW, aD5]
   cases h2 : aQ x.Reader.Buf [13, 10] with
   | false =>
    right
    refine ⟨_, rfl, ?_⟩
    rw [tX h1 h2]
   | true =>
    left
    obtain ⟨s, hs⟩ := tY h2
    have h13 : aQ x.Reader.Buf [13] = true := by rw [hs]; rfl
    show ∃ y, ((strings_TrimPrefix x.Reader.Buf ([13] : Bytes)).bind fun x5 => (strings_TrimPrefix x5 ([10] : Bytes)).bind fun x6 => some (Sum.inl (bA x x6))) = some (Sum.inl y) /\ _
    have hd : x.Reader.Buf.drop ([13] : Bytes).length = 10 :: s := by rw [hs]; rfl
    have hsl : s.length + 2 = x.Reader.Buf.length := by rw [hs]; rfl
    rw [eB big, h13, aDc, aD5, hd, eB (by simp; omega), aD5, show aQ (10 :: s) [10] = true from by unfold aQ; simp [aEj], aDc]
    refine ⟨_, rfl, by show s.length <= _; omega, by show s.length < _; omega, ?_⟩
    show _ = some (bA (bA x s) (skB (bA x s).Reader.Asks (bA x s).Reader.Buf))
    rw [hset, hs, nH]
    rfl
noncomputable def begJ (j1 : S_wire_reading) : Option (Bool × S_wire_reading) := (head_End ((j1.Reader).Buf)).bind fun x7 =>
 bif ((x7.2) == (3 : Int)) then some (false, j1)
 else bif ((x7.2) != (0 : Int)) then (wire_reading_fail j1 (x7.2)).bind fun x8 => some ((x8.1), (x8.2))
 else (slc ((j1.Reader).Buf) 0 (x7.1)).bind fun x9 => (strings_Cut x9 ([10] : Bytes)).bind fun x10 =>
  bif (j1.Reader).Asks then begT start_Parse j1 (x7.1) x10 else begT start_Status j1 (x7.1) x10
theorem oL {w : S_wire_reading} (hb : w.Reader.Buf.length <= 50000) : wire_reading_begin w = begJ (bA w (skB w.Reader.Asks w.Reader.Buf)) := by
 rw [kQ, aBy hb, aD5]; rfl
theorem yU (a : Bool) (b : Bytes) : (skB a b).length <= b.length := by
 cases a with
 | true => exact yT _ b (aD6 _)
 | false => exact aD6 _
def oM (h : S_Message) (b : Bytes) : S_Message := S_Message.mk h.Start h.Fields (h.Body ++ b)
def qJ (A : Bool) (M : Bytes) (b : Bytes) (h : S_Message) (O : List S_Message) : S_wire_reading := S_wire_reading.mk (S_Reader.mk A M b false bK (B 0 0) aK 0) (O ++ [h])
def inW (A : Bool) (M : Bytes) (b : Bytes) (h : S_Message) (bd : S_Body) (c : S_Chunked) (O : List S_Message) : S_wire_reading := S_wire_reading.mk (S_Reader.mk A M b true h bd c 0) O
def badW (A : Bool) (M : Bytes) (e : Int) (O : List S_Message) : S_wire_reading := S_wire_reading.mk (S_Reader.mk A M [] false bK (B 0 0) aK e) O
theorem mC {A : Bool} {M b : Bytes} {h : S_Message} {c : S_Chunked} {O : List S_Message} (hO : O.length <= 1000000) : wire_reading_more (inW A M b h (B 0 0) c O) = some (true, qJ A M b h O) := by
 have e : wire_reading_more (inW A M b h (B 0 0) c O) = (wire_reading_whole (inW A M b h (B 0 0) c O)).bind fun x1 => some (x1.1, x1.2) := rfl
 rw [e, fJ hO, aD5]; rfl
theorem mD {A : Bool} {M b : Bytes} {h : S_Message} {z : Int} {c : S_Chunked} {O : List S_Message} (n : Nat) (hz : z = (h.Body.length : Int) + n) (hz2 : z <= 20000) (hb : b.length <= 50000) (hO : O.length <= 1000000) :
  wire_reading_more (inW A M b h (B 1 z) c O) = bif decide (n <= b.length) then some (true, qJ A M (b.drop n) (oM h (b.take n)) O) else some (false, inW A M [] (oM h b) (B 1 z) c O) := by
 unfold wire_reading_more
 show ((slc b 0 (imin (b.length : Int) (IntKind.i64.wrap (z - (h.Body.length : Int))))).bind fun x2 => (cat h.Body x2).bind fun x3 => (slc b (imin (b.length : Int) (IntKind.i64.wrap (z - (h.Body.length : Int)))) (b.length : Int)).bind fun x4 => _) = _
 rw [aC (by omega) (by omega)]
 obtain ⟨k, hk, hk1, hk2⟩ : ∃ k : Nat, imin (b.length : Int) (z - (h.Body.length : Int)) = (k : Int) /\ k <= b.length /\ (bif decide (n <= b.length) then k = n else k = b.length) := by
  rcases jL (b.length : Int) (z - (h.Body.length : Int)) with ⟨h1, h2⟩ | ⟨h1, h2⟩
  ·rw [h1]
   refine ⟨b.length, rfl, aD6 _, ?_⟩
   by_cases hd : n <= b.length
   ·rw [decide_eq_true hd]; show b.length = n; omega
   ·rw [decide_eq_false hd]; show b.length = b.length; rfl
  ·rw [h1]
   refine ⟨n, by omega, by omega, ?_⟩
   rw [decide_eq_true (by omega)]; rfl
 rw [hk]
 have e1 : slc b 0 (k : Int) = some (b.take k) := by unfold slc; rw [aB (by omega)]; simp
 have e2 : slc b (k : Int) (b.length : Int) = some (b.drop k) := by
  unfold slc
  rw [aB (by omega)]
  show some ((b.drop k).take (b.length - k)) = _
  rw [aD9 (by simp)]
 have e3 : cat h.Body (b.take k) = some (h.Body ++ b.take k) := by unfold cat; rw [aB (by unfold maxLen; simp; omega)]
 rw [e1, aD5, e3, aD5, e2, aD5]
 have hlen : (h.Body ++ b.take k).length = h.Body.length + k := by simp; omega
 show (bif (((h.Body ++ b.take k).length : Int) == z) then _ else _) = _
 by_cases hd : n <= b.length
 ·rw [decide_eq_true hd, aDc]
  rw [decide_eq_true hd, aDc] at hk2
  subst hk2
  have e : (((h.Body ++ b.take k).length : Int) == z) = true := by rw [hlen]; simp; omega
  rw [e, aDc, fJ hO, aD5]
  show some ((bif (((h.Body ++ b.take k).length : Int) == z) then true else false), _) = _
  rw [e]
  rfl
 ·rw [decide_eq_false hd, aDd]
  rw [decide_eq_false hd, aDd] at hk2
  subst hk2
  have e : (((h.Body ++ b.take b.length).length : Int) == z) = false := by rw [hlen]; simp; omega
  rw [e, aDd, List.take_length, List.drop_length]
  rfl
theorem sD {d : Bytes} {n : Nat} {o : Option CR} (h : o ≠ some (.inl 0)) : o.map (cB d n) ≠ some (.inl 0) := by
 cases o with
 | none => simp
 | some x =>
  cases x with
  | inl e => exact h
  | inr r => intro h'; cases h'
theorem kS : ∀ (b : Bytes) (c : S_Chunked), cRun c b ≠ some (.inl 0)
 | [], c => by rw [kR]; intro h; cases h
 | x :: b, c => by
  by_cases h4 : c.Stage = 4
  ·rw [mA h4]; intro h; cases h
  by_cases h1 : c.Stage = 1
  ·rw [iN h1]; exact sD (kS b _)
  cases hx : (x == 10) with
  | true =>
   rw [eq_of_beq hx, sC h1 h4]
   cases sB c c.Line with
   | none => intro h; cases h
   | some st =>
    rw [aD5]
    cases hb : (st.bad != (0 : Int)) with
    | true =>
     intro h
     have h : st.bad = 0 := Sum.inl.inj (Option.some.inj h)
     rw [h] at hb; cases hb
    | false => rw [aDd]; exact sD (kS b _)
  | false =>
   rw [oJ h1 h4 hx]
   cases decide (c.Line.length + 1 > 200) with
   | true => intro h; cases h
   | false => rw [aDd]; exact sD (kS b _)
noncomputable def mcR (A : Bool) (M b : Bytes) (h : S_Message) (O : List S_Message) : CR -> Bool × S_wire_reading
 | .inl e => (false, badW A M e O)
 | .inr r => bif r.1.Stage == (4 : Int) then (true, qJ A M (b.drop r.2.2) (oM h r.2.1) O) else (false, inW A M (b.drop r.2.2) (oM h r.2.1) (B 2 0) r.1 O)
theorem oN (A : Bool) (M b : Bytes) (h : S_Message) (O : List S_Message) (r : S_Chunked × Bytes × Nat) : mcR A M b h O (.inr r) = bif r.1.Stage == (4 : Int) then (true, qJ A M (b.drop r.2.2) (oM h r.2.1) O) else (false, inW A M (b.drop r.2.2) (oM h r.2.1) (B 2 0) r.1 O) := rfl
structure CROk (c : S_Chunked) (b : Bytes) (r : S_Chunked × Bytes × Nat) : Prop where
 ok : ChOk r.1
 took : r.2.2 <= b.length
 all : r.1.Stage ≠ 4 -> r.2.2 = b.length
 size : r.1.Size = c.Size + (r.2.1.length : Int)
theorem oO {c : S_Chunked} {b : Bytes} (hc : ChOk c) (hb : b.length <= 1000000) : (∃ e, e ≠ 0 /\ cRun c b = some (.inl e)) ∨ ∃ r, cRun c b = some (.inr r) /\ CROk c b r := by
 obtain ⟨x, hx, hq⟩ := qE hc hb
 rw [tT hc hb] at hx
 cases hr : cRun c b with
 | none => rw [hr] at hx; cases hx
 | some y =>
  rw [hr] at hx
  have hx : toF y = x := Option.some.inj hx
  subst hx
  cases y with
  | inl e =>
   rcases hq with hq | hq
   ·exact .inl ⟨e, hq, rfl⟩
   ·by_cases h0 : e = 0
    ·subst h0
     exfalso
     exact absurd hr (kS b c)
    ·exact .inl ⟨e, h0, rfl⟩
  | inr r =>
   rcases hq with hq | hq
   ·exact absurd rfl hq
   ·exact .inr ⟨r, rfl, hq.ok, by have := hq.took.2; exact Int.ofNat_le.1 this, fun h => by have := hq.all h; exact Int.ofNat_inj.1 this, hq.size⟩
theorem jN {A : Bool} {M b : Bytes} {h : S_Message} {c : S_Chunked} {O : List S_Message} (hc : ChOk c) (hs : c.Size = (h.Body.length : Int)) (hb : b.length <= 50000) (hO : O.length <= 1000000) :
  wire_reading_more (inW A M b h (B 2 0) c O) = (cRun c b).map (mcR A M b h O) := by
 unfold wire_reading_more
 show ((chunk_Feed c b).bind _) = _
 rw [tT hc (by omega)]
 rcases oO (b := b) hc (by omega) with ⟨e, he, hr⟩ | ⟨r, hr, hq⟩
 ·rw [hr]
  show ((some (toF (.inl e))).bind _) = _
  rw [aD5]
  have e1 : ((toF (.inl e)).2.2.2 != (0 : Int)) = true := by show (e != (0 : Int)) = true; simpa using he
  rw [e1, aDc, cR, aD5]
  rfl
 ·rw [hr]
  show ((some (toF (.inr r))).bind _) = _
  rw [aD5]
  have e1 : ((toF (.inr r)).2.2.2 != (0 : Int)) = false := rfl
  have hsz := hq.size
  have hso := hq.ok.size
  have hcs := hc.size
  have e3 : cat h.Body r.2.1 = some (h.Body ++ r.2.1) := by unfold cat; rw [aB (by unfold maxLen; omega)]
  have ht := hq.took
  have e2 : slc b (r.2.2 : Int) (b.length : Int) = some (b.drop r.2.2) := by
   unfold slc
   rw [aB (by omega)]
   show some ((b.drop r.2.2).take (b.length - r.2.2)) = _
   rw [aD9 (by simp)]
  rw [e1, aDd]
  show ((cat h.Body r.2.1).bind _) = _
  rw [e3, aD5]
  show ((slc b (r.2.2 : Int) (b.length : Int)).bind _) = _
  rw [e2, aD5]
  show (bif (r.1.Stage == (4 : Int)) then _ else _) = some (bif r.1.Stage == (4 : Int) then _ else _)
  cases h4 : (r.1.Stage == (4 : Int)) with
  | true =>
   rw [aDc, aDc, fJ hO, aD5]
   show some ((bif r.1.Stage == (4 : Int) then true else false), _) = _
   rw [h4]
   rfl
  | false => rfl
theorem oP {A : Bool} {M b : Bytes} {h : S_Message} {c : S_Chunked} {O : List S_Message} (hb : b.length <= 50000) (hl : h.Body.length <= 20000) :
  wire_reading_more (inW A M b h (B 3 0) c O) = some (bif decide (h.Body.length + b.length > 20000) then (false, badW A M 2 O) else (false, inW A M [] (oM h b) (B 3 0) c O)) := by
 unfold wire_reading_more
 have e3 : cat h.Body b = some (h.Body ++ b) := by unfold cat; rw [aB (by unfold maxLen; omega)]
 show ((cat h.Body b).bind _) = _
 rw [e3, aD5]
 have hlen : (h.Body ++ b).length = h.Body.length + b.length := by simp
 by_cases hd : h.Body.length + b.length > 20000
 ·rw [decide_eq_true (show ((h.Body ++ b).length : Int) > 20000 by omega), decide_eq_true hd, aDc, cR, aD5]; rfl
 ·rw [decide_eq_false (show ¬ ((h.Body ++ b).length : Int) > 20000 by omega), decide_eq_false hd, aDd]; rfl
noncomputable def g6 (w : S_wire_reading) : Option (Bool × S_wire_reading) := bif w.Reader.In then wire_reading_more w else wire_reading_begin w
def outS (r : Bool × S_wire_reading) : S_wire_reading ⊕ (S_Reader × List S_Message × Int) := bif r.1 then .inl r.2 else .inr (r.2.Reader, r.2.out, 0)
theorem qK (w : S_wire_reading) : wire_Feed_b1 w = (g6 w).map outS := by
 unfold wire_Feed_b1 g6
 cases w.Reader.In with
 | true =>
  rw [aDc, aDc]
  cases wire_reading_more w with
  | none => rfl
  | some r => obtain ⟨r1, r2⟩ := r; cases r1 <;> rfl
 | false =>
  rw [aDd, aDd]
  cases wire_reading_begin w with
  | none => rfl
  | some r => obtain ⟨r1, r2⟩ := r; cases r1 <;> rfl
theorem WI.form {a : Bool} {m : Bytes} {w : S_wire_reading} (hw : WI a m w) (hin : w.Reader.In = true) : w = inW a m w.Reader.Buf w.Reader.Head w.Reader.Body w.Reader.Chunk w.out := by
 obtain ⟨⟨A, M, Bf, I, H, Bd, C, E⟩, O⟩ := w
 have h1 := hw.asks; have h2 := hw.meth; have h3 := hw.bad
 simp only at h1 h2 h3 hin
 subst h1 h2 h3 hin
 rfl
theorem WI.out {a : Bool} {m : Bytes} {w : S_wire_reading} (hw : WI a m w) : w.out.length <= 1000000 := by have := hw.cnt; omega
theorem oQ {a : Bool} {m : Bytes} {w : S_wire_reading} (hw : WI a m w) : Tot (g6 w) (yN a m w) := by
 unfold g6
 cases hin : w.Reader.In with
 | true => exact aAp hw hin
 | false => exact yO hw hin
theorem cU {w : S_wire_reading} {r : Bool × S_wire_reading} (h : g6 w = some r) : loopO wire_Feed_b1 w = bif r.1 then loopO wire_Feed_b1 r.2 else some (r.2.Reader, r.2.out, 0) := by
 rw [aT, qK, h]
 obtain ⟨r1, r2⟩ := r
 cases r1 <;> rfl
def aBz (r : S_Reader) (t : Bytes) : S_Reader := S_Reader.mk r.Asks r.Method (r.Buf ++ t) r.In r.Head r.Body r.Chunk r.Bad
abbrev FR : Type := S_Reader × List S_Message × Int
theorem tZ {rd : Bytes -> Option (S_Start × Int)} {j : S_wire_reading} {e : Int} {x : Bytes × Bytes × Bool} {r : Bool × S_wire_reading} (h : begT rd j e x = some r) : r.2.out = j.out := by
 have fin : ∀ (v : S_wire_reading) (e : Int), v.out = j.out -> ((wire_reading_fail v e).bind fun x => some (x.1, x.2)) = some r -> r.2.out = j.out := fun v e he h => by
  rw [cR, aD5] at h
  cases h
  exact he
 unfold begT at h
 cases h11 : strings_TrimSuffix x.1 [13] with
 | none => rw [h11] at h; cases h
 | some x11 =>
  rw [h11, aD5] at h
  cases h12 : rd x11 with
  | none => rw [h12] at h; cases h
  | some x12 =>
   rw [h12, aD5] at h
   cases e12 : (x12.2 != (0 : Int)) with
   | true => rw [e12, aDc] at h; exact fin _ _ rfl h
   | false =>
    rw [e12, aDd] at h
    cases h14 : strings_TrimSuffix x.2.1 [10] with
    | none => rw [h14] at h; cases h
    | some x14 =>
     rw [h14, aD5] at h
     cases h15 : strings_TrimSuffix x14 [13] with
     | none => rw [h15] at h; cases h
     | some x15 =>
      rw [h15, aD5] at h
      cases h16 : head_Parse x15 with
      | none => rw [h16] at h; cases h
      | some x16 =>
       rw [h16, aD5] at h
       cases e16 : (x16.2 != (0 : Int)) with
       | true => rw [e16, aDc] at h; exact fin _ _ rfl h
       | false =>
        rw [e16, aDd] at h
        generalize wire_body _ = o at h
        cases o with
        | none => cases h
        | some x18 =>
         rw [aD5] at h
         cases e18 : (x18.2 != (0 : Int)) with
         | true => rw [e18, aDc] at h; exact fin _ _ rfl h
         | false =>
          rw [e18, aDd] at h
          generalize slc j.Reader.Buf e _ = o at h
          cases o with
          | none => cases h
          | some x20 =>
           rw [aD5] at h
           generalize (bif (((x12.1).Code) != (0 : Int)) then (decide (((x12.1).Code) < (200 : Int))) else false) = q at h
           cases q <;> (cases h; rfl)
theorem aAw {j : S_wire_reading} {r : Bool × S_wire_reading} (hl : j.Reader.Buf.length <= 1000000) (h : begJ j = some r) : r.2.out = j.out := by
 unfold begJ at h
 rw [nG hl, aD5] at h
 cases e3 : ((endB j.Reader.Buf).2 == (3 : Int)) with
 | true => rw [e3, aDc] at h; cases h; rfl
 | false =>
 rw [e3, aDd] at h
 cases e0 : ((endB j.Reader.Buf).2 != (0 : Int)) with
 | true =>
  rw [e0, aDc, cR, aD5] at h
  cases h
  rfl
 | false =>
  rw [e0, aDd] at h
  cases h9 : slc j.Reader.Buf 0 (endB j.Reader.Buf).1 with
  | none => rw [h9] at h; cases h
  | some x9 =>
   rw [h9, aD5] at h
   cases h10 : strings_Cut x9 [10] with
   | none => rw [h10] at h; cases h
   | some x10 =>
    rw [h10, aD5] at h
    cases ha : j.Reader.Asks with
    | true => rw [ha] at h; exact tZ h
    | false => rw [ha] at h; exact tZ h
def pre (o : List S_Message) (w : S_wire_reading) : S_wire_reading := S_wire_reading.mk w.Reader (o ++ w.out)
def preP (o : List S_Message) (r : Bool × S_wire_reading) : Bool × S_wire_reading := (r.1, pre o r.2)
theorem t8 {rd : Bytes -> Option (S_Start × Int)} {j : S_wire_reading} {e : Int} {x : Bytes × Bytes × Bool} (o : List S_Message) : begT rd (pre o j) e x = (begT rd j e x).map (preP o) := by
 obtain ⟨⟨A, M, Bf, I, H, Bd, C, E⟩, O⟩ := j
 unfold begT pre
 dsimp only
 cases strings_TrimSuffix x.1 [13] with
 | none => rfl
 | some x11 =>
  rw [aD5, aD5]
  cases rd x11 with
  | none => rfl
  | some x12 =>
   rw [aD5, aD5]
   cases (x12.2 != (0 : Int)) with
   | true => rfl
   | false =>
    rw [aDd, aDd]
    cases strings_TrimSuffix x.2.1 [10] with
    | none => rfl
    | some x14 =>
     rw [aD5, aD5]
     cases strings_TrimSuffix x14 [13] with
     | none => rfl
     | some x15 =>
      rw [aD5, aD5]
      cases head_Parse x15 with
      | none => rfl
      | some x16 =>
       rw [aD5, aD5]
       cases (x16.2 != (0 : Int)) with
       | true => rfl
       | false =>
        rw [aDd, aDd]
        cases wire_body (S_Reader.mk A M Bf I (S_Message.mk x12.1 x16.1 H.Body) Bd C E) with
        | none => rfl
        | some x18 =>
         rw [aD5, aD5]
         cases (x18.2 != (0 : Int)) with
         | true => rfl
         | false =>
          rw [aDd, aDd]
          cases slc Bf e (Bf.length : Int) with
          | none => rfl
          | some x20 =>
          rw [aD5, aD5]
          cases (bif (((x12.1).Code) != (0 : Int)) then (decide (((x12.1).Code) < (200 : Int))) else false) <;> rfl
theorem aAx {j : S_wire_reading} (o : List S_Message) : begJ (pre o j) = (begJ j).map (preP o) := by
 unfold begJ
 show ((head_End j.Reader.Buf).bind _) = _
 cases head_End j.Reader.Buf with
 | none => rfl
 | some x7 =>
  rw [aD5, aD5]
  cases (x7.2 == (3 : Int)) with
  | true => rfl
  | false =>
   rw [aDd, aDd]
   cases (x7.2 != (0 : Int)) with
   | true => rfl
   | false =>
    rw [aDd, aDd]
    show ((slc j.Reader.Buf 0 x7.1).bind _) = _
    cases slc j.Reader.Buf 0 x7.1 with
    | none => rfl
    | some x9 =>
     rw [aD5, aD5]
     cases strings_Cut x9 [10] with
     | none => rfl
     | some x10 =>
      rw [aD5, aD5]
      show (bif j.Reader.Asks then _ else _) = _
      cases j.Reader.Asks with
      | true => exact t8 o
      | false => exact t8 o
def OutQ (w : S_wire_reading) (r : Bool × S_wire_reading) : Prop := r.2.out = w.out ∨ ∃ h, r.1 = true /\ r.2.out = w.out ++ [h] /\ FRow h.Fields
theorem aAy {a : Bool} {m : Bytes} {w : S_wire_reading} {o : List S_Message} (hw : WI a m w) (hin : w.Reader.In = true) (ho : o.length + w.out.length <= 1000000) : wire_reading_more (pre o w) = (wire_reading_more w).map (preP o) /\ ∀ r, wire_reading_more w = some r -> OutQ w r := by
 have hO := hw.out
 have hr := hw.inn hin
 have hf := hw.form hin
 have hb := hw.buf
 generalize w.Reader.Buf = b at hf hb
 generalize w.out = O at hf hO ho
 generalize w.Reader.Head = h at hf hr
 generalize w.Reader.Body = bd at hf hr
 generalize w.Reader.Chunk = c at hf hr
 subst hf
 have hp : pre o (inW a m b h bd c O) = inW a m b h bd c (o ++ O) := rfl
 have hp2 : ∀ (b : Bytes) (h : S_Message) (bd : S_Body) (c : S_Chunked), pre o (inW a m b h bd c O) = inW a m b h bd c (o ++ O) := fun _ _ _ _ => rfl
 have hd : ∀ (b : Bytes) (h : S_Message), pre o (qJ a m b h O) = qJ a m b h (o ++ O) := fun b h => by unfold pre qJ; simp
 have hoo : (o ++ O).length <= 1000000 := by simp; omega
 have hdo : ∀ (b : Bytes) (h : S_Message), FRow h.Fields -> OutQ (inW a m b h bd c O) (true, qJ a m b h O) := fun b h hf => .inr ⟨h, rfl, rfl, hf⟩
 rw [hp]
 rcases hr.kind.kind with rfl | ⟨z, hz0, hz1, rfl⟩ | rfl | rfl
 ·rw [mC hO, mC hoo]
  refine ⟨by rw [<- hd]; rfl, fun r hrr => ?_⟩
  cases hrr
  exact .inr ⟨h, rfl, rfl, hr.fields⟩
 ·have hk1 : (h.Body.length : Int) <= z := hr.k1 rfl
  obtain ⟨n, hn⟩ : ∃ n : Nat, z = (h.Body.length : Int) + n := ⟨(z - (h.Body.length : Int)).toNat, by omega⟩
  rw [mD n hn hz1 hb hO, mD n hn hz1 hb hoo]
  cases decide (n <= b.length) with
  | true =>
   refine ⟨by rw [aDc, aDc, <- hd]; rfl, fun r hrr => ?_⟩
   cases hrr
   exact .inr ⟨_, rfl, rfl, hr.fields⟩
  | false =>
   refine ⟨rfl, fun r hrr => ?_⟩
   cases hrr
   exact .inl rfl
 ·obtain ⟨g1, g2, g3⟩ := hr.k2 rfl
  rw [jN g1 g3 hb hO, jN g1 g3 hb hoo]
  refine ⟨?_, fun r hrr => ?_⟩
  ·rw [Option.map_map]
   congr 1
   funext x
   cases x with
   | inl e => rfl
   | inr q =>
    show mcR a m b h (o ++ O) (.inr q) = preP o (mcR a m b h O (.inr q))
    rw [oN, oN]
    cases (q.1.Stage == (4 : Int)) with
    | true => rw [aDc, aDc, <- hd]; rfl
    | false => rfl
  ·rcases oO (b := b) g1 (by omega) with ⟨e, he, hc⟩ | ⟨q, hc, hk⟩
   ·rw [hc] at hrr
    cases hrr
    exact .inl rfl
   ·rw [hc, Option.map_some, oN] at hrr
    cases h4 : (q.1.Stage == (4 : Int)) with
    | true => rw [h4, aDc] at hrr; cases hrr; exact .inr ⟨_, rfl, rfl, hr.fields⟩
    | false => rw [h4, aDd] at hrr; cases hrr; exact .inl rfl
 ·have hk3 := hr.k3 rfl
  rw [oP hb hk3, oP hb hk3]
  cases decide (h.Body.length + b.length > 20000) with
  | true => exact ⟨rfl, fun r hrr => by cases hrr; exact .inl rfl⟩
  | false => exact ⟨rfl, fun r hrr => by cases hrr; exact .inl rfl⟩
theorem aAz {a : Bool} {m : Bytes} {w : S_wire_reading} {o : List S_Message} (hw : WI a m w) (ho : o.length + w.out.length <= 1000000) : g6 (pre o w) = (g6 w).map (preP o) /\ ∀ r, g6 w = some r -> OutQ w r := by
 unfold g6
 show (bif w.Reader.In then _ else _) = _ /\ _
 cases hin : w.Reader.In with
 | true => exact aAy hw hin ho
 | false =>
  rw [aDd, aDd]
  have hb := hw.buf
  rw [oL hb, oL (w := pre o w) hb]
  have hsl := yU w.Reader.Asks w.Reader.Buf
  exact ⟨aAx (j := bA w (skB w.Reader.Asks w.Reader.Buf)) o, fun r hr => .inl (aAw (j := bA w (skB w.Reader.Asks w.Reader.Buf)) (by show (skB w.Reader.Asks w.Reader.Buf).length <= _; omega) hr)⟩
structure aAU (a : Bool) (m : Bytes) (r : FR) : Prop where
 ok : XOk a m r.1
 err : r.2.2 = 0
 len : r.2.1.length <= 1000000
 rows : ∀ h, h ∈ r.2.1 -> FRow h.Fields
theorem aAA {a : Bool} {m : Bytes} {w : S_wire_reading} (hw : WI a m w) (hr : ∀ h, h ∈ w.out -> FRow h.Fields) : Tot (loopO wire_Feed_b1 w) (aAU a m) := by
 refine kM mu (fun x => WI a m x /\ ∀ h, h ∈ x.out -> FRow h.Fields) _ (fun x hx => ?_) w ⟨hw, hr⟩
 obtain ⟨hx, hrows⟩ := hx
 obtain ⟨r, hr, hq1, hq2⟩ := oQ hx
 obtain ⟨_, hout⟩ := aAz (o := []) hx (by have := hx.out; simpa using this)
 rw [qK, hr]
 have hout := hout r hr
 have rows : ∀ h, h ∈ r.2.out -> FRow h.Fields := by
  rcases hout with h | ⟨h, _, h2, h3⟩
  ·rw [h]; exact hrows
  ·rw [h2]
   intro y hy
   rcases List.mem_append.1 hy with hy | hy
   ·exact hrows y hy
   ·rw [List.mem_singleton.1 hy]; exact h3
 cases h1 : r.1 with
 | true =>
  left
  refine ⟨r.2, by rw [Option.map_some]; unfold outS; rw [h1]; rfl, ⟨(hq1 h1).1, rows⟩, (hq1 h1).2⟩
 | false =>
  right
  refine ⟨(r.2.Reader, r.2.out, 0), by rw [Option.map_some]; unfold outS; rw [h1]; rfl, hq2 h1, rfl, ?_, rows⟩
  rcases hout with h | ⟨h, h2, _⟩
  ·show r.2.out.length <= _; rw [h]; exact hx.out
  ·rw [h1] at h2; cases h2
theorem XOk.wi {a : Bool} {m s : Bytes} {r : S_Reader} (hr : XOk a m r) (h0 : r.Bad = 0) (hs : s.length <= 40000) : WI a m (S_wire_reading.mk (aBz r s) []) := by
 have hb := hr.buf
 refine ⟨hr.asks.1, hr.asks.2, h0, by show (r.Buf ++ s).length <= _; simp; omega, ?_, fun hin => ?_, fun hin => ?_⟩
 ·show ([] : List S_Message).length + (2 * (r.Buf ++ s).length + (bif r.In then 1 else 0)) <= 1000000
  cases r.In <;> simp <;> omega
 ·have hin : r.In = false := hin
  show r.Head = bK /\ r.Body = B 0 0 /\ r.Chunk = aK
  obtain ⟨A, M, Bf, I, H, Bd, C, E⟩ := r
  simp only at hin h0 ⊢
  subst hin h0
  cases hr with
  | bad e he => exact absurd rfl he
  | out => exact ⟨rfl, rfl, rfl⟩
 ·have hin : r.In = true := hin
  show RIn a m r.Head r.Body r.Chunk
  obtain ⟨A, M, Bf, I, H, Bd, C, E⟩ := r
  simp only at hin h0 ⊢
  subst hin h0
  cases hr with
  | inn _ _ _ hr => exact hr
theorem uA {a : Bool} {m : Bytes} {r : S_Reader} {s : Bytes} (hr : XOk a m r) (h0 : r.Bad = 0) (hs : s.length <= 40000) : wire_Feed r s = loopO wire_Feed_b1 (S_wire_reading.mk (aBz r s) []) := by
 have hb := hr.buf
 unfold wire_Feed
 rw [hr.right, aD5, show (!true) = false from rfl, aDd, h0, show ((0 : Int) != 0) = false from rfl, aDd]
 have hc : cat r.Buf s = some (r.Buf ++ s) := by unfold cat; rw [aB (by unfold maxLen; simp; omega)]
 rw [hc, aD5]
 unfold aBz
 rw [h0]
theorem aBA {a : Bool} {m s : Bytes} {r : S_Reader} (hr : XOk a m r) (hs : s.length <= 40000) : Tot (wire_Feed r s) (aAU a m) := by
 by_cases h0 : r.Bad = 0
 ·rw [uA hr h0 hs]
  exact aAA (hr.wi h0 hs) (fun h hh => by cases hh)
 ·rw [aAs (by rw [hr.asks.1, hr.asks.2]; exact hr) h0]
  exact .now ⟨hr, rfl, aD7 _, fun h hh => by cases hh⟩
theorem qL {l : List S_Message} (hl : l.length <= 1000000) (h : ∀ m, m ∈ l -> FRow m.Fields) : intarsiaref10_Same l l = some true := by
 unfold intarsiaref10_Same
 rw [show ((l.length : Int) != (l.length : Int)) = false by simp, aDd]
 refine eD (fun s : Int => l.length - s.toNat) (fun s => 0 <= s /\ s <= (l.length : Int)) (fun _ => some true) (fun s hs => ?_) (0 : Int) ⟨aEh _, by omega⟩
 obtain ⟨i, rfl⟩ : ∃ i : Nat, s = (i : Int) := ⟨s.toNat, by omega⟩
 unfold intarsiaref10_Same_b1
 by_cases hlt : i < l.length
 ·left
  refine ⟨((i + 1 : Nat) : Int), ?_, ⟨by omega, by omega⟩, by omega, rfl⟩
  have hx := aEd hlt
  have hf := (h _ (List.getElem_mem hlt)).len
  rw [decide_eq_true (show (i : Int) < (l.length : Int) by omega), aDc, aV hx, aD5, aD5, fK (by unfold maxLen; omega), aD5]
  rw [show (!true) = false from rfl, aDd, aC (by omega) (by omega)]
  rfl
 ·right
  rw [decide_eq_false (show ¬ (i : Int) < (l.length : Int) by omega), aDd]
  exact ⟨_, rfl, rfl⟩
def newR (a : Bool) (m : Bytes) : S_Reader := S_Reader.mk a m [] false bK (B 0 0) aK 0
theorem aBB (a : Bool) (m : Bytes) : XOk a m (newR a m) := .out [] (aD7 _)
theorem g7 {s : Bytes} (hs : s.length <= maxLen) : intarsiaref03_Lower s = some (bI s) := by
 unfold intarsiaref03_Lower
 have hfold : ∀ (l acc : Bytes), aY (ρ := Bytes) (fun a b => .inl (a ++ [lowB b])) (fun a => a) l acc = acc ++ bI l := by
  intro l
  induction l with
  | nil => intro acc; simp [aY, bI]
  | cons x l ih =>
   intro acc
   show aY _ _ l (acc ++ [lowB x]) = _
   rw [ih]; simp [bI]
 have key := aW (body := intarsiaref03_Lower_b1 s) s (fun i b => (b, (i : Int))) (fun a b => .inl (a ++ [lowB b])) (fun a => a) (fun i b => b.length = i) (fun i b x hx hi => ?_) (fun b hi => ?_) [] rfl
 ·rw [show (([] : Bytes), (0 : Int)) = (([] : Bytes), ((0 : Nat) : Int)) from rfl, key, hfold]; rfl
 ·have hlt := aP hx
  refine .inl ⟨_, rfl, ?_, by simp [hi]⟩
  unfold intarsiaref03_Lower_b1
  dsimp only
  rw [aM hlt, aDc, aV hx, aD5, bZ (by simp; omega), bZ (by simp; omega), aD5, aD5, aL hlt hs, p3]
  have h2 := low2 x
  cases hc : (bif (decide ((x.toNat : Int) ≥ (65 : Int))) then (decide ((x.toNat : Int) <= (90 : Int))) else false) with
  | true => rw [hc, aDc] at h2; rw [aDc, h2]
  | false => rw [hc, aDd] at h2; rw [aDd, <- h2]
 ·unfold intarsiaref03_Lower_b1
  dsimp only
  rw [aO]; rfl
theorem vQ {s t : Bytes} (hs : s.length <= maxLen) (ht : t.length <= maxLen) : intarsiaref04_same s t = some (bI s == bI t) := by
 unfold intarsiaref04_same
 rw [g7 hs, aD5, g7 ht]; rfl
theorem qM {l : List S_Field} {n : Bytes} (hl : l.length <= 1000000) (h : ∀ f, f ∈ l -> iH f) (hn : n.length <= maxLen) : intarsiaref04_All l n = some (bH l n) := by
 unfold intarsiaref04_All
 have hf : ∀ (m : List S_Field) (acc : List Bytes), aY (ρ := List Bytes) (fun a x => .inl (bif isN n x then a ++ [x.Value] else a)) (fun a => a) m acc = acc ++ bH m n := by
  intro m
  induction m with
  | nil => intro acc; simp [aY, bH]
  | cons x m ih =>
   intro acc
   show aY _ _ m (bif isN n x then acc ++ [x.Value] else acc) = _
   rw [ih, vG]
   cases isN n x <;> simp
 have key := aW (body := intarsiaref04_All_b1 l n) l (fun i b => (b, (i : Int))) (fun a x => .inl (bif isN n x then a ++ [x.Value] else a)) (fun a => a) (fun i b => b.length <= i) (fun i b x hx hi => ?_) (fun b hi => ?_) [] (aD6 _)
 ·rw [show (([] : List Bytes), (0 : Int)) = (([] : List Bytes), ((0 : Nat) : Int)) from rfl, key, hf]; rfl
 ·have hlt := aP hx
  refine .inl ⟨_, rfl, ?_, ?_⟩
  ·unfold intarsiaref04_All_b1
   dsimp only
   rw [aM hlt, aDc, aV hx, aD5, vQ (h x (aEf hx)).name hn, aD5, aL hlt (aBp hl), m7 (by simp; omega) (by omega), aD5]
   show _ = some (Sum.inl ((bif isN n x then _ else _), _))
   unfold isN
   cases (bI x.Name == bI n) <;> rfl
  ·cases isN n x <;> simp <;> omega
 ·unfold intarsiaref04_All_b1
  dsimp only
  rw [aO]; rfl
theorem qN {l : List Bytes} (h : jV l) : intarsiaref04_Joined l = some (Lib.join l sep) := by
 unfold intarsiaref04_Joined
 have hm : ∀ n, n <= 20000400000 -> n <= maxLen := fun n h => by unfold maxLen; omega
 have key : loopO (intarsiaref04_Joined_b1 l) (([] : Bytes), (0 : Int)) = some (Lib.join l sep) := by
  have h' := fX (body := intarsiaref04_Joined_b1 l) (fun _ => Lib.join l sep) (fun x => l.length - x.2.toNat) (fun x => ∃ i : Nat, i <= l.length /\ x = (Lib.join (l.take i) sep, (i : Int))) ?_ (([] : Bytes), (0 : Int)) ⟨0, aD7 _, by simp [Lib.join]⟩
  ·exact h'
  ·rintro _ ⟨i, hi, rfl⟩
   rcases Nat.lt_or_ge i l.length with hlt | hge
   ·left
    have hj := (h.take i).join
    have hx : l[i]? = some l[i] := aEd hlt
    have hxl := h.each _ (List.getElem_mem hlt)
    refine ⟨(Lib.join (l.take (i + 1)) sep, ((i + 1 : Nat) : Int)), ?_, ⟨i + 1, hlt, rfl⟩, by simp; omega, rfl⟩
    unfold intarsiaref04_Joined_b1
    dsimp only
    rw [aM hlt, aDc, aV hx, aD5, aL hlt (hm _ (by have := h.len; omega)), aEl hlt]
    rcases Nat.eq_zero_or_pos i with h0 | h0
    ·subst h0
     rw [show decide (((0 : Nat) : Int) > (0 : Int)) = false from rfl, aDd, bZ (hm _ (by omega)), aD5]
     simp [Lib.join]
    ·rw [show decide (((i : Nat) : Int) > (0 : Int)) = true by simp; omega, aDc, bZ (hm _ (by simp; omega)), aD5, bZ (hm _ (by simp; omega)), aD5, xW _ _ (by intro e; have h9 : (l.take i).length = i := by { rw [List.length_take]; omega }; rw [e] at h9; simp at h9; omega)]
     rfl
   ·right
    have : i = l.length := by omega
    subst this
    unfold intarsiaref04_Joined_b1
    dsimp only
    rw [aO, List.take_length]; rfl
 rw [key]; rfl
theorem val1 (b : UInt8) : ∃ v, intarsiaref02_value (b.toNat : Int) = some v /\ decide (v ≥ (10 : Int)) = (!bQ b) /\ (bQ b = true -> v = dv b) := by
 have := cO (p := fun b => match intarsiaref02_value (b.toNat : Int) with | some v => (decide (v ≥ (10 : Int)) == !bQ b) && (!bQ b || v == dv b) | none => false) (by kernel_rfl) b
 cases h : intarsiaref02_value (b.toNat : Int) with
 | none => rw [h] at this; cases this
 | some v =>
  rw [h] at this
  simp only [aD8, beq_iff_eq, Bool.or_eq_true, Bool.not_eq_true'] at this
  exact ⟨v, rfl, this.1, fun hd => this.2.resolve_left (by rw [hd]; simp)⟩
theorem yV {s : Bytes} (hs : s.length <= maxLen) : intarsiaref02_Read s 10 = some (dec s) := by
 unfold intarsiaref02_Read dec
 cases h0 : (s == ([] : Bytes)) with
 | true => rfl
 | false =>
  simp only [aDd]
  -- the second loop
  have h2 : s.all bQ = true -> loopO (intarsiaref02_Read_b2 s 10) ((0 : Int), (0 : Int)) = some (.inr (decR s 0 false)) := by
   intro hall
   have hf : ∀ (l : Bytes) (n : Int), l.all bQ = true -> aY tG rdFin l n = .inr (decR l n false) := by
    intro l
    induction l with
    | nil => intro n _; rfl
    | cons x l ih =>
     intro n ha
     rw [aEe, aD8] at ha
     unfold decR
     rw [aEe, ha.1, ha.2, bY, show tG n x = (bif decide (n * 10 + dv x > 1099511627776) then .inr (.inr (0, 2)) else .inl (n * 10 + dv x)) from rfl]
     unfold over valF
     cases hm : decide (n * 10 + dv x > 1099511627776) with
     | true => rfl
     | false =>
      simp only [aDd]
      rw [ih _ ha.2]; unfold decR; rw [ha.2]; rfl
   have key := aW (body := intarsiaref02_Read_b2 s 10) s (fun i (c : Int) => (c, (i : Int))) tG rdFin (fun i c => 0 <= c /\ c <= 1099511627776) (fun i c x hx hi => ?_) (fun c hi => ?_) 0 ⟨by simp, by simp⟩
   ·rw [show ((0 : Int), (0 : Int)) = ((0 : Int), ((0 : Nat) : Int)) from rfl, key, hf _ _ hall]
   ·have hlt := aP hx
    have hd : bQ x = true := List.all_eq_true.1 hall x (aEf hx)
    have hdv := vH hd
    obtain ⟨v, v1, v2, v3⟩ := val1 x
    unfold intarsiaref02_Read_b2
    dsimp only
    rw [aM hlt, aDc, aV hx, aD5, v1, aD5, v3 hd, Int.mul_comm 10 c, cN (show 0 <= c * 10 by omega) (by omega), cN (show 0 <= c * 10 + dv x by omega) (by omega), aL hlt hs]
    unfold tG
    cases hm : decide (c * 10 + dv x > 1099511627776) with
    | true => exact .inr ⟨_, rfl, rfl⟩
    | false => exact .inl ⟨_, rfl, rfl, by omega, by simpa using hm⟩
   ·unfold intarsiaref02_Read_b2
    dsimp only
    rw [aO]; rfl
  have hf : ∀ (l : Bytes), aY (β := Unit) (ρ := Int × Int) (fun _ x => bif bQ x then .inl () else .inr (0, 10)) (fun _ => decR s 0 false) l () = bif l.all bQ then decR s 0 false else (0, 10) := by
   intro l
   induction l with
   | nil => rfl
   | cons x l ih =>
    unfold aY
    rw [aEe]
    cases bQ x with
    | true => exact ih
    | false => rfl
  have hfin : (bif s.all bQ then decR s 0 false else ((0 : Int), (10 : Int))) = decR s 0 false := by
   unfold decR
   cases s.all bQ <;> rfl
  rw [<- hfin, <- hf]
  have h3 : ∀ (m i : Nat), m + i = s.length -> loopO (intarsiaref02_Read_b1 s 10) (i : Int) = (bif (s.take i).all bQ then some (aY (β := Unit) (ρ := Int × Int) (fun _ x => bif bQ x then .inl () else .inr (0, 10)) (fun _ => decR s 0 false) (s.drop i) ()) else loopO (intarsiaref02_Read_b1 s 10) (i : Int)) := by
   intro m
   induction m with
   | zero =>
    intro i hm
    have : i = s.length := by omega
    subst this
    rw [List.take_length, List.drop_length]
    cases hall : s.all bQ with
    | false => rfl
    | true =>
     rw [aT]
     have hb : intarsiaref02_Read_b1 s 10 (s.length : Int) = some (.inr (decR s 0 false)) := by
      unfold intarsiaref02_Read_b1
      rw [aO, aDd, h2 hall]
     rw [hb]; rfl
   | succ m ih =>
    intro i hm
    have hlt : i < s.length := by omega
    have hx : s[i]? = some s[i] := aEd hlt
    cases hall : (s.take i).all bQ with
    | false => rfl
    | true =>
     rw [aT, List.drop_eq_getElem_cons hlt, aDc]
     obtain ⟨v, v1, v2, v3⟩ := val1 s[i]
     unfold aY
     have hb : intarsiaref02_Read_b1 s 10 (i : Int) = some (bif bQ s[i] then .inl ((i + 1 : Nat) : Int) else .inr (0, 10)) := by
      unfold intarsiaref02_Read_b1
      rw [aM hlt, aDc, aV hx, aD5, v1, aD5, v2, aL hlt hs]
      cases bQ s[i] <;> rfl
     rw [hb]
     cases hd : bQ s[i] with
     | false => rfl
     | true =>
      have h4 := ih (i + 1) (by omega)
      have h5 : (s.take (i + 1)).all bQ = true := by rw [aEl hlt, List.all_append, hall]; simp [hd]
      rw [h5, aDc] at h4
      exact h4
  have := h3 s.length 0 (by omega)
  rw [List.take_zero, List.drop_zero] at this
  exact this
theorem qO {minor : Int} {l : List S_Field} (h : FRow l) : intarsiaref09_Say minor l = some (f0 minor l) := by
 unfold intarsiaref09_Say f0 sayB
 have hl : l.length <= 1000000 := by have := h.len; omega
 have hte := h.vals nTE
 have hcl := h.vals nCL
 have e1 : bH l nTE' = bH l nTE := tH l (by kernel_rfl)
 have e2 : bH l nCL' = bH l nCL := tH l (by kernel_rfl)
 show Option.bind (intarsiaref04_All l nTE') (fun x1 => Option.bind (intarsiaref04_All l nCL') _) = _
 rw [qM (n := nTE') hl h.small (big (by decide)), aD5, qM (n := nCL') hl h.small (big (by decide)), aD5, e1, e2, gtz, gtz]
 cases decide ((bH l nTE).length > 0) with
 | true =>
  simp only [aDc, Bool.true_or]
  rw [aG (fun _ => qN hte), aD5]
  cases hg : (!(bif decide ((bH l nCL).length > 0) then true else (minor == 0))) with
  | false =>
   rw [dM rfl, aD5]
   revert hg
   cases decide ((bH l nCL).length > 0) <;> cases (minor == 0) <;> intro hg <;> first | rfl | (cases hg)
  | true =>
   rw [bG rfl, aDc, g7 (big (by have := hte.join; omega)), aD5]
   revert hg
   show _ -> (bif (bif _ then true else !(bI (Lib.join (bH l nTE) sep) == l0)) then _ else _) = _
   cases decide ((bH l nCL).length > 0) <;> cases (minor == 0) <;> cases (bI (Lib.join (bH l nTE) sep) == l0) <;> intro hg <;> first | rfl | (cases hg)
 | false =>
  simp only [aDd, Bool.false_or]
  generalize bH l nCL = cl at *
  have hz : ((cl.length : Int) == (0 : Int)) = !decide (cl.length > 0) := by
   rw [aEc]; simp <;> omega
  rw [hz]
  cases hd : decide (cl.length > 0) with
  | false => rfl
  | true =>
   simp only [Bool.not_true, aDd, aDc]
   let ff : Option Int -> Int := fun c => match c with | none => 0 | some z => bif z == -1 then 18446744073709551615 else z
   refine aW cl (fun i c => (ff c, (i : Int))) bR (d4 (B 0 0)) (fun i c => (i = 0 /\ c = none) ∨ (0 < i /\ ∃ z, c = some z /\ (z = -1 ∨ (0 <= z /\ z <= 1099511627776)))) (fun i c x hx hi => ?_) (fun c hi => ?_) none (.inl ⟨rfl, rfl⟩)
   ·have hlt := aP hx
    have hxl := hcl.each x (aEf hx)
    have hsz : (dec x).2 = 10 ∨ sizeOf x = -1 ∨ (0 <= sizeOf x /\ sizeOf x <= 1099511627776) := by
     unfold sizeOf
     rcases iI x with hc | hc | ⟨hc, hc1, hc2⟩
     ·exact .inl hc
     ·rw [hc]; exact .inr (.inl rfl)
     ·rw [hc]; exact .inr (.inr ⟨hc1, hc2⟩)
    have hb : intarsiaref09_Say_b1 cl (ff c, (i : Int)) = some (bif (dec x).2 == 10 then .inr (B 0 0, 32) else bif (bif decide ((i : Int) > 0) then (ff (some (sizeOf x)) != ff c) else false) then .inr (B 0 0, 32) else .inl (ff (some (sizeOf x)), ((i + 1 : Nat) : Int))) := by
     unfold intarsiaref09_Say_b1
     dsimp only
     rw [aM hlt, aDc, aV hx, aD5, yV (big (by omega)), aD5, aL hlt (big (by have := hcl.len; omega))]
     unfold sizeOf
     rcases iI x with hc | hc | ⟨hc, hc1, hc2⟩
     ·rw [hc]; rfl
     ·rw [hc]
      simp only [k22, k210, aDc, aDd]
      show _ = some (bif (bif decide ((i : Int) > 0) then ((18446744073709551615 : Int) != ff c) else false) then _ else _)
      cases (bif decide ((i : Int) > 0) then ((18446744073709551615 : Int) != ff c) else false) <;> rfl
     ·have hne : ((dec x).1 == (-1 : Int)) = false := by simp; omega
      have hff : ff (some (dec x).1) = (dec x).1 := by show (bif (dec x).1 == -1 then _ else _) = _; rw [hne]; rfl
      rw [hc]
      simp only [k02, k010, aDc, aDd]
      rw [hff]
      cases (bif decide ((i : Int) > 0) then ((dec x).1 != ff c) else false) <;> rfl
    rw [hb]
    unfold bR
    cases h10 : (dec x).2 == 10 with
    | true => exact .inr ⟨_, rfl, rfl⟩
    | false =>
     have hsz' : sizeOf x = -1 ∨ (0 <= sizeOf x /\ sizeOf x <= 1099511627776) := hsz.resolve_left (by simpa using h10)
     rcases hi with ⟨rfl, rfl⟩ | ⟨hi, z, rfl, hzr⟩
     ·exact .inl ⟨_, rfl, rfl, .inr ⟨by omega, _, rfl, hsz'⟩⟩
     ·rw [show decide ((i : Int) > 0) = true by simp; omega]
      have hinj : (ff (some (sizeOf x)) != ff (some z)) = !(sizeOf x == z) := by
       show (!((bif sizeOf x == -1 then (18446744073709551615 : Int) else sizeOf x) == (bif z == -1 then (18446744073709551615 : Int) else z))) = _
       congr 1
       rw [aEc, beq_iff_eq, beq_iff_eq]
       rcases hsz' with h1 | h1 <;> rcases hzr with h2 | h2
       ·rw [h1, h2]; simp
       ·rw [h1, show (z == -1) = false by simp; omega]; simp; omega
       ·rw [h2, show (sizeOf x == -1) = false by simp; omega]; simp; omega
       ·rw [show (sizeOf x == -1) = false by simp; omega, show (z == -1) = false by simp; omega]; simp
      rw [hinj]
      dsimp only
      cases hq : sizeOf x == z with
      | true => exact .inl ⟨_, rfl, rfl, .inr ⟨by omega, _, rfl, hsz'⟩⟩
      | false => exact .inr ⟨_, rfl, rfl⟩
   ·unfold intarsiaref09_Say_b1
    dsimp only
    rw [aO, aDd]
    rcases hi with ⟨hi, _⟩ | ⟨hi, z, rfl, hzr⟩
    ·rw [hi] at hd; cases hd
    ·show (bif decide ((bif z == -1 then (18446744073709551615 : Int) else z) > 20000) then _ else some (Sum.inr (S_Body.mk 1 (IntKind.i64.wrap (bif z == -1 then (18446744073709551615 : Int) else z)), _))) = some (Sum.inr (bif (bif decide (z < 0) then true else decide (z > 20000)) then _ else _))
     rcases hzr with rfl | hzr
     ·rfl
     ·rw [show (z == -1) = false by simp; omega, aDd, aC (by omega) (by omega), show decide (z < 0) = false by simp; omega]
      simp only [aDd]
      cases decide (z > 20000) <;> rfl
theorem oR {s : S_Start} {l : List S_Field} (hs : d3 s) (h : FRow l) : intarsiaref09_Request s l = some (reqB s l) := by
 unfold intarsiaref09_Request reqB
 rw [d9 hs, aD5, aG (fun _ => lY (big (by have := h.len; omega)) h.small), aD5, qO h, aD5, <- tJ]
 cases aS s <;> cases (s.Code != 0) <;> cases dZ l <;> first | rfl | (cases decide ((f0 s.Minor l).1.Kind < 0) <;> rfl)
theorem qP {s : S_Start} {l : List S_Field} {m : Bytes} (hs : d3 s) (h : FRow l) : intarsiaref09_Answer s l m = some (ansB s l m) := by
 unfold intarsiaref09_Answer ansB
 rw [d9 hs, aD5, aG (fun _ => lY (big (by have := h.len; omega)) h.small), aD5, qO h, aD5, <- tJ]
 cases aS s <;> cases (s.Code == 0) <;> cases dZ l <;> cases decide (s.Code < 200) <;> cases (s.Code == 204) <;> cases (s.Code == 304) <;> cases (m == ([72, 69, 65, 68] : Bytes)) <;> first | rfl | (cases decide ((f0 s.Minor l).1.Kind < 0) <;> rfl)
theorem yW (n : Nat) (hn : n < 18446744073709551616) : intarsiaref02_Digits (n : Int) 10 = some (Lib.decDigits n) := by
 unfold intarsiaref02_Digits
 have key := fX (body := intarsiaref02_Digits_b1 10) digV (fun x => 2 * x.1.toNat + (bif x.2 == ([] : Bytes) then 1 else 0)) (fun x => 0 <= x.1 /\ x.1 < 18446744073709551616 /\ x.1.toNat * 10 ^ x.2.length < 18446744073709551616) (fun x hx => ?_) ((n : Int), ([] : Bytes)) ⟨by simp, by simp; omega, by simp; omega⟩
 ·rw [key, aD5]
  unfold digV
  have e : (bif decide ((n : Int) > 0) then true else (([] : Bytes) == ([] : Bytes))) = true := by cases decide ((n : Int) > 0) <;> rfl
  dsimp only
  rw [e, aDc, aEn, aEa]
 ·obtain ⟨x, s⟩ := x
  dsimp only at hx ⊢
  obtain ⟨h0, h1, h2⟩ := hx
  obtain ⟨k, rfl⟩ : ∃ k : Nat, x = k := ⟨x.toNat, by omega⟩
  rw [aEa] at h2
  unfold intarsiaref02_Digits_b1 digV
  dsimp only
  cases hc : (bif decide ((k : Int) > 0) then true else (s == ([] : Bytes))) with
  | false => exact .inr rfl
  | true =>
   refine .inl ⟨(((k / 10 : Nat) : Int), [UInt8.ofNat (48 + k % 10)] ++ s), ?_, ⟨by show (0 : Int) <= ((k / 10 : Nat) : Int); omega, by show ((k / 10 : Nat) : Int) < _; omega, ?_⟩, ?_, ?_⟩
   ·have hm : (k : Int).tmod 10 = ((k % 10 : Nat) : Int) := by rw [Int.tmod_eq_emod_of_nonneg (by omega)]; rfl
    have hd : (k : Int).tdiv 10 = ((k / 10 : Nat) : Int) := by rw [Int.tdiv_eq_ediv_of_nonneg (by omega)]; rfl
    have hs : s.length < 20 := by
     by_cases hk : k = 0
     ·subst hk
      have : s = [] := by simpa using hc
      subst this; simp
     ·refine Nat.lt_of_not_le fun hle => ?_
      have : 10 ^ 20 <= 10 ^ s.length := Nat.pow_le_pow_right (by omega) hle
      have : 1 * 10 ^ s.length <= k * 10 ^ s.length := Nat.mul_le_mul_right _ (by omega)
      have e20 : (10 : Nat) ^ 20 = 100000000000000000000 := by kernel_rfl
      omega
    have hw : IntKind.u64.wrap ((k % 10 : Nat) : Int) = ((k % 10 : Nat) : Int) := cN (by omega) (by omega)
    rw [aDc, hm, aB ⟨rfl, hw⟩, aB ⟨rfl, hw⟩, aBt _ (Nat.mod_lt _ (by omega)), aD5, bZ (by simp; unfold maxLen; omega), aD5, aB (show ((10 : Int) == 0) = false from rfl), hd, cN (by omega) (by omega)]
   ·show ((k / 10 : Nat) : Int).toNat * 10 ^ ([UInt8.ofNat (48 + k % 10)] ++ s).length < _
    rw [aEa, aEg, List.length_singleton, Nat.add_comm 1, Nat.pow_succ]
    have : k / 10 * (10 ^ s.length * 10) = (k / 10 * 10) * 10 ^ s.length := by rw [Nat.mul_comm (10 ^ s.length) 10, Nat.mul_assoc]
    rw [this]
    exact Nat.lt_of_le_of_lt (Nat.mul_le_mul_right _ (Nat.div_mul_le_self k 10)) h2
   ·show 2 * ((k / 10 : Nat) : Int).toNat + _ < 2 * ((k : Nat) : Int).toNat + _
    rw [aEa, aEa]
    have e1 : (([UInt8.ofNat (48 + k % 10)] ++ s) == ([] : Bytes)) = false := rfl
    rw [e1, aDd]
    by_cases hk : k = 0
    ·subst hk
     have : s = [] := by simpa using hc
     subst this; simp
    ·cases (s == ([] : Bytes)) <;> simp <;> omega
   ·rw [aDc, aEa]
    by_cases h10 : k < 10
    ·have e2 : k / 10 = 0 := by omega
     rw [e2]
     have e3 : k % 10 = k := by omega
     rw [Lib.decDigits, dif_pos h10, e3]
     rfl
    ·have e3 : decide (((k / 10 : Nat) : Int) > 0) = true := by simp; omega
     rw [e3, aDc, aDc, aEa]
     conv => lhs; rw [Lib.decDigits, dif_neg h10]
     rw [List.append_assoc]
theorem uB {s : Bytes} (hs : s.length <= maxLen) : ∀ (r : Bytes) (i : Nat), s.drop i = r -> i <= s.length -> loopO (intarsiaref06_cut_b1 s) (i : Int) = some (s.take i ++ (cutW r).1, (cutW r).2)
 | [], i, h, hi => by
  have hi' : i = s.length := by
   have := congrArg List.length h
   rw [List.length_drop] at this
   simp at this; omega
  subst hi'
  rw [aT]
  unfold intarsiaref06_cut_b1
  rw [aO, aDd, List.take_length]
  simp [cutW]
 | x :: r, i, h, hi => by
  have hx : s[i]? = some x := by
   have := congrArg (fun l => l[0]?) h
   simpa using this
  have hlt := aP hx
  have hr : s.drop (i + 1) = r := by
   have := congrArg List.tail h
   simpa using this
  have hb : ((x.toNat : Int) == (32 : Int)) = (x == 32) := jE (p := fun x => ((x.toNat : Int) == (32 : Int))) (q := fun x => x == 32) (by kernel_rfl) x
  have hbody : intarsiaref06_cut_b1 s (i : Int) = bif x == 32 then some (.inr (s.take i, r, true)) else some (.inl ((i + 1 : Nat) : Int)) := by
   unfold intarsiaref06_cut_b1
   rw [aM hlt, aDc, aV hx, aD5, aL hlt hs, hb]
   have h1 : slc s 0 (i : Int) = some (s.take i) := by
    unfold slc
    rw [aB (by omega)]; simp
   have h2 : slc s ((i + 1 : Nat) : Int) (s.length : Int) = some r := by
    unfold slc
    rw [aB (by omega)]
    show some ((s.drop (i + 1)).take (s.length - (i + 1))) = some r
    rw [hr, aD9 (by rw [<- hr, List.length_drop]; exact aD6 _)]
   rw [h1, aD5, h2, aD5]
  rw [aT, hbody]
  unfold cutW
  cases hc : (x == 32) with
  | true => simp
  | false =>
   show loopO (intarsiaref06_cut_b1 s) ((i + 1 : Nat) : Int) = _
   rw [uB hs r (i + 1) hr hlt]
   have : s.take (i + 1) = s.take i ++ [x] := by rw [List.take_add_one, hx]; rfl
   rw [this]; simp
theorem uC {s : Bytes} (hs : s.length <= maxLen) : intarsiaref06_cut s = some (cutW s) := by
 unfold intarsiaref06_cut
 have := uB hs s 0 rfl (aD7 _)
 rw [show ((0 : Nat) : Int) = 0 from rfl] at this
 rw [this]; simp
theorem qQ {n : Int} (h : 0 <= n) (h' : n <= 1000000) : intarsiaref02_Digits (IntKind.u64.wrap n) (10 : Int) = some (Lib.decDigits n.toNat) := by
 rw [cN h (by omega)]
 have := yW n.toNat (by omega)
 rwa [show ((n.toNat : Nat) : Int) = n by omega] at this
theorem mE {s : S_Start} (h : SSm s) (hs : aS s = true) : intarsiaref06_Print s = some (dD s) := by
 unfold intarsiaref06_Print dD
 have hm := dE hs
 have hc := l4 hs
 have hv := aBv hm
 have h1 := h.method
 have h2 := h.target
 have h3 := h.reason
 have h4 := nB (n := s.Minor.toNat) (by omega)
 rw [qQ (by omega) (by omega), aD5, bZ (by unfold maxLen; show 7 + _ <= _; omega), aD5]
 rw [show ([72, 84, 84, 80, 47, 49, 46] : Bytes) ++ Lib.decDigits s.Minor.toNat = ver s.Minor.toNat from rfl]
 cases hb : (s.Code == 0) with
 | true =>
  rw [aDc, aDc, bZ (by unfold maxLen; simp; omega), aD5, bZ (by unfold maxLen; simp; omega), aD5, bZ (by unfold maxLen; simp; omega), aD5,
   bZ (s := s.Method ++ [32] ++ s.Target ++ [32]) (t := ver s.Minor.toNat) (by unfold maxLen; simp; omega)]
  simp [ver]
 | false =>
  have h5 := nB (n := s.Code.toNat) (by omega)
  rw [aDd, aDd, bZ (s := ver s.Minor.toNat) (t := [32]) (by unfold maxLen; simp; omega), aD5, qQ (by omega) (by omega), aD5, bZ (by unfold maxLen; simp; omega), aD5, bZ (by unfold maxLen; simp; omega), aD5,
   bZ (by unfold maxLen; simp; omega)]
  simp [ver]
theorem aAV {s : S_Start} (h : SSm s) (l : Bytes) : ((intarsiaref06_Right s).bind fun x3 => (gcall (!(!x3)) (intarsiaref06_Print s)).bind fun x4 =>
  bif (bif (!x3) then true else (!(x4 == l))) then some ((S_Start.mk ([] : Bytes) ([] : Bytes) (0 : Int) ([] : Bytes) (0 : Int)), (30 : Int)) else some (s, (0 : Int))) = some (endS s l) := by
 rw [d9 h.small, aD5]
 unfold endS
 cases hs : aS s with
 | false => rfl
 | true =>
  rw [bG (by rfl), mE h hs, aD5]
  cases (dD s == l) <;> rfl
theorem mP {l : Bytes} (hl : l.length <= 1000000) : intarsiaref06_Parse l = some (endS (S_Start.mk (cutW l).1 (cutW (cutW l).2.1).1 0 [] (refm (cutW (cutW l).2.1).2.1)) l) := by
 unfold intarsiaref06_Parse
 have h1 := oG l
 have h2 := oG (cutW l).2.1
 rw [uC (sm hl), aD5, uC (sm (by omega)), aD5]
 have hsm : ∀ m : Int, SSm (S_Start.mk (cutW l).1 (cutW (cutW l).2.1).1 0 [] m) := fun m => ⟨by show (cutW l).1.length <= _; omega, by show (cutW (cutW l).2.1).1.length <= _; omega, aD7 _⟩
 rw [<- ver1]
 unfold refm
 cases hv : ((cutW (cutW l).2.1).2.1 == ver 1) with
 | true => exact aAV (hsm 1) l
 | false => exact aAV (hsm 0) l
theorem sE {l : Bytes} (hl : l.length <= 1000000) : intarsiaref06_Parse l = some (bT l) := by
 rw [mP hl]
 refine congrArg some ?_
 rcases fI l with h1 | ⟨a, t, rfl, h1⟩
 ·rw [jJ h1]
  unfold bT
  rw [kK h1]
  exact gK fun h _ => by
   have : aS (S_Start.mk l [] 0 [] (refm [])) = true := h
   rw [yG] at this; cases this
 rw [eG t h1]
 unfold bT
 rw [iM t h1]
 rcases fI t with h2 | ⟨b, v, rfl, h2⟩
 ·rw [kK h2]
  show endS (S_Start.mk a (cutW t).1 0 [] (refm (cutW t).2.1)) _ = _
  rw [jJ h2]
  refine gK fun hs h => ?_
  have hm := dE hs
  have h3 : a ++ 32 :: (t ++ 32 :: ver (refm []).toNat) = a ++ 32 :: t := h
  have := congrArg List.length h3
  simp at this
 rw [iM v h2]
 show endS (S_Start.mk a (cutW (b ++ 32 :: v)).1 0 [] (refm (cutW (b ++ 32 :: v)).2.1)) _ = _
 rw [eG v h2]
 show endS (S_Start.mk a b 0 [] (refm v)) _ = _
 have hp : dD (S_Start.mk a b 0 [] (refm v)) = a ++ 32 :: (b ++ 32 :: ver (refm v).toNat) := rfl
 have hinj : a ++ 32 :: (b ++ 32 :: ver (refm v).toNat) = a ++ 32 :: (b ++ 32 :: v) -> ver (refm v).toNat = v := fun h => by
  have h3 := List.append_cancel_left h
  injection h3 with _ h3
  have h4 := List.append_cancel_left h3
  injection h4 with _ h4
 rcases fI v with h3 | ⟨c, u, rfl, h3⟩
 ·rw [kK h3]
  show _ = okS (S_Start.mk a b 0 [] (bX v))
  rcases jY v with ⟨e, rfl⟩ | ⟨e, rfl⟩ | ⟨e, e0, e1⟩
  ·have : refm (ver 0) = 0 := by unfold refm; rw [ver0, ver1]; rfl
   rw [e, this]
   exact kL fun _ => rfl
  ·have : refm (ver 1) = 1 := by unfold refm; rw [ver1]; rfl
   rw [e, this]
   exact kL fun _ => rfl
  ·rw [jI (s := S_Start.mk a b 0 [] (bX v)) e]
   refine gK fun _ h => ?_
   have h4 := hinj h
   rcases nD v with ⟨e2, e3⟩ | ⟨e2, e3⟩
   ·exact e1 e3
   ·rw [e2] at h4; exact e0 h4.symm
 ·rw [iM u h3]
  obtain ⟨x, w, hx⟩ := yD u
  rw [hx]
  show _ = (dH, (30 : Int))
  refine gK fun hs h => ?_
  have h4 := hinj h
  have h5 : noSp (ver (refm (c ++ 32 :: u)).toNat) = true := oF (dE hs)
  rw [h4] at h5
  unfold noSp at h5
  simp at h5
theorem oS {s : S_Start} (h : SSm s) (l : Bytes) (z : Bool) : ((gcall (!z) (intarsiaref06_Right s)).bind fun x5 => (gcall (!(bif z then true else (!x5))) (intarsiaref06_Print s)).bind fun x6 =>
  bif (bif (bif z then true else (!x5)) then true else (!(x6 == l))) then some ((S_Start.mk ([] : Bytes) ([] : Bytes) (0 : Int) ([] : Bytes) (0 : Int)), (30 : Int)) else some (s, (0 : Int))) = some (bif z then (dH, 30) else endS s l) := by
 cases z with
 | true => rfl
 | false =>
  rw [bG (by rfl), d9 h.small, aD5]
  unfold endS
  cases hs : aS s with
  | false => rfl
  | true =>
   rw [bG (by rfl), mE h hs, aD5]
   simp only [aDd, Bool.not_true]
   cases (dD s == l) <;> rfl
theorem mF {l : Bytes} (hl : l.length <= 100000) : intarsiaref06_Status l = some (oH l) := by
 unfold intarsiaref06_Status oH
 have h1 := oG l
 have h2 := oG (cutW l).2.1
 have hd := oE (cutW (cutW l).2.1).1
 rw [uC (sm (by omega)), aD5, uC (sm (by omega)), aD5, yV (sm (by omega)), aD5, aC (by omega) (by omega)]
 have hsm : ∀ m : Int, SSm (S_Start.mk [] [] (dec (cutW (cutW l).2.1).1).1 (cutW (cutW l).2.1).2.1 m) := fun m => ⟨aD7 _, aD7 _, by show (cutW (cutW l).2.1).2.1.length <= _; omega⟩
 rw [<- ver1]
 unfold refm
 cases hv : ((cutW l).1 == ver 1) <;> cases hb : (cutW (cutW l).2.1).2.2
 ·simp only [aDd, aDc, Bool.not_false]
  rw [bZ (sm (by simp; omega)), aD5]
  exact oS (hsm 0) _ _
 ·exact oS (hsm 0) _ _
 ·simp only [aDd, aDc, Bool.not_false]
  rw [bZ (sm (by simp; omega)), aD5]
  exact oS (hsm 1) _ _
 ·exact oS (hsm 1) _ _
theorem qR {l : Bytes} (hl : l.length <= 100000) : intarsiaref06_Status l = some (aU l) := by
 rw [mF hl]
 refine congrArg some ?_
 unfold oH aU
 rcases fI l with h1 | ⟨v, t, rfl, h1⟩
 ·have : Lib.splitN l [32] 3 = [l] := by unfold Lib.splitN; exact iL h1
  rw [this, jJ h1]; rfl
 rw [eG t h1]
 show (bif (dec (cutW t).1).1 == 0 then _ else endS (S_Start.mk [] [] (dec (cutW t).1).1 (cutW t).2.1 (refm v)) (bif (cutW t).2.2 then _ else _)) = _
 rcases fI t with h2 | ⟨c, r, rfl, h2⟩
 ·have hw : Lib.splitN (v ++ 32 :: t) [32] 3 = [v, t] := by
   by_cases ht : t = []
   ·subst ht
    unfold Lib.splitN
    obtain ⟨k, hk⟩ : ∃ k, min 3 ((v ++ [32]).length + 1) - 1 = k + 1 := ⟨min 3 ((v ++ [32]).length + 1) - 2, by simp; omega⟩
    rw [hk, f5 h1, iL rfl]
   ·exact vL h1 h2 ht
  rw [hw, jJ h2]
  show _ = bJ v t []
  rw [jZ h1 h2]
  show (bif (dec t).1 == 0 then _ else endS (S_Start.mk [] [] (dec t).1 [] (refm v)) ((v ++ 32 :: t) ++ [32])) = _
  rw [show (v ++ 32 :: t) ++ [32] = v ++ 32 :: (t ++ [32]) by simp]
 ·rw [nC h1 h2, eG r h2]
  show _ = bJ v c r
  rw [jZ h1 h2]; rfl
end Go.Proofs.YtdnjgojkpfbimaaGreatDoor
