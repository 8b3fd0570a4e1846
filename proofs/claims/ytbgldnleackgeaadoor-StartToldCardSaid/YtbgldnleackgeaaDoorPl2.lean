/-
  Plain laws, part 2: blanks off both ends; prefixes; small letters.
-/
import Derived.Test.YtbgldnleackgeaaDoorPl1
namespace Go.Proofs.YtbgldnleackgeaaDoor
open Go Go.Pm
set_option linter.unusedVariables false

/-! ### Blanks off both ends -/
def blank (b : UInt8) : Bool := b == 32 || b == 9
def dropL (p : UInt8 → Bool) (s : Bytes) : Bytes := s.dropWhile p
def dropR (p : UInt8 → Bool) (s : Bytes) : Bytes := (s.reverse.dropWhile p).reverse
def trim (s : Bytes) : Bytes := dropL blank (dropR blank s)

theorem dropR_snoc (p : UInt8 → Bool) (s : Bytes) (b : UInt8) : dropR p (s ++ [b]) = bif p b then dropR p s else s ++ [b] := by
  unfold dropR
  rw [List.reverse_append, List.reverse_cons, List.reverse_nil, List.nil_append, List.singleton_append, List.dropWhile_cons]
  cases p b <;> simp
theorem dropR_nil (p : UInt8 → Bool) : dropR p [] = [] := rfl
theorem dropL_le (p : UInt8 → Bool) (s : Bytes) : (dropL p s).length ≤ s.length := (List.dropWhile_sublist p).length_le
theorem dropR_le (p : UInt8 → Bool) (s : Bytes) : (dropR p s).length ≤ s.length := by
  unfold dropR
  have := (List.dropWhile_sublist p (l := s.reverse)).length_le
  simpa using this
theorem trim_le (s : Bytes) : (trim s).length ≤ s.length := Nat.le_trans (dropL_le ..) (dropR_le ..)

/-- A loop that takes a byte off the front as long as a test holds. -/
theorem loopL {body : Bytes → Option (Bytes ⊕ Bytes)} (p : UInt8 → Bool) (n : Nat) (h0 : body [] = some (.inr [])) (h1 : ∀ x t, t.length < n → body (x :: t) = some (bif p x then .inl t else .inr (x :: t))) :
    ∀ s, s.length ≤ n → loopO body s = some (dropL p s) := by
  refine loopO_rec (dropL p) List.length (fun s => s.length ≤ n) fun s hs => ?_
  cases s with
  | nil => exact .inr h0
  | cons x t =>
    have hb := h1 x t (by simp at hs; omega)
    cases hx : p x with
    | true =>
      rw [hx] at hb
      exact .inl ⟨t, hb, by simp at hs; omega, by simp, by unfold dropL; rw [List.dropWhile_cons_of_pos hx]⟩
    | false =>
      rw [hx] at hb
      refine .inr ?_
      rw [hb]; unfold dropL
      rw [List.dropWhile_cons_of_neg (by simp [hx])]; rfl
/-- A loop that takes a byte off the end as long as a test holds. -/
theorem loopR {body : Bytes → Option (Bytes ⊕ Bytes)} (p : UInt8 → Bool) (n : Nat) (h0 : body [] = some (.inr [])) (h1 : ∀ x t, t.length < n → body (t ++ [x]) = some (bif p x then .inl t else .inr (t ++ [x]))) :
    ∀ s, s.length ≤ n → loopO body s = some (dropR p s) := by
  refine loopO_rec (dropR p) List.length (fun s => s.length ≤ n) fun s hs => ?_
  rcases List.eq_nil_or_concat s with rfl | ⟨t, x, rfl⟩
  · exact .inr h0
  · rw [List.concat_eq_append] at hs ⊢
    have hb := h1 x t (by simp at hs; omega)
    rw [dropR_snoc]
    cases hx : p x with
    | true =>
      rw [hx] at hb
      exact .inl ⟨t, hb, by simp at hs; omega, by simp, rfl⟩
    | false =>
      rw [hx] at hb
      exact .inr hb

theorem slc_tail (x : UInt8) (t : Bytes) : slc (x :: t) (1 : Int) (((x :: t).length : Nat) : Int) = some t := by
  unfold slc
  rw [chk_pos (by simp; omega)]
  simp
theorem slc_init (x : UInt8) (t : Bytes) (h : t.length < maxLen) : slc (t ++ [x]) 0 (IntKind.i64.wrap (((t ++ [x]).length : Int) - (1 : Int))) = some t := by
  have : IntKind.i64.wrap (((t ++ [x]).length : Int) - (1 : Int)) = (t.length : Int) := by
    unfold maxLen at h
    have e : ((t ++ [x]).length : Int) = (t.length : Int) + 1 := by simp
    rw [e, wrap_i64 (by omega) (by omega)]; omega
  rw [this]
  unfold slc
  rw [chk_pos (by simp; omega)]
  simp
theorem idx_last (x : UInt8) (t : Bytes) (h : t.length < maxLen) : idx (t ++ [x]) (IntKind.i64.wrap (((t ++ [x]).length : Int) - (1 : Int))) = some x := by
  have : IntKind.i64.wrap (((t ++ [x]).length : Int) - (1 : Int)) = (t.length : Int) := by
    unfold maxLen at h
    have e : ((t ++ [x]).length : Int) = (t.length : Int) + 1 := by simp
    rw [e, wrap_i64 (by omega) (by omega)]; omega
  rw [this]
  exact idx_at (by simp)
theorem dgt_cons (x : UInt8) (t : Bytes) : decide ((((x :: t).length : Nat) : Int) > (0 : Int)) = true := by simp
theorem dgt_snoc (x : UInt8) (t : Bytes) : decide ((((t ++ [x]).length : Nat) : Int) > (0 : Int)) = true := by simp

def bset : List Bool := (List.range 256).map fun n => blank (UInt8.ofNat n)
theorem bset_get (b : UInt8) : bset[b.toNat]? = some (blank b) := by
  unfold bset
  rw [List.getElem?_map, List.getElem?_range b.toNat_lt]
  simp
theorem bset_eq : strings_makeASCIISet [32, 9] = some (bset, true) := by
  unfold strings_makeASCIISet
  exact loopO_some.2 ⟨3, by kernel_rfl⟩
theorem contains_eq (b : UInt8) : strings_asciiSet_contains bset (b.toNat : Int) = some (blank b) := by
  have := b.toNat_lt
  unfold strings_asciiSet_contains
  rw [chk_pos (by omega), idx_at (bset_get b)]; rfl
theorem trimLeftASCII_eq {s : Bytes} : strings_trimLeftASCII s bset = some (dropL blank s) := by
  unfold strings_trimLeftASCII
  rw [loopL blank s.length rfl (fun x t _ => ?_) s (Nat.le_refl _)]
  · rfl
  · unfold strings_trimLeftASCII_b1
    rw [dgt_cons, cond_true, show idx (x :: t) (0 : Int) = some x from rfl, Option.bind_some, contains_eq, Option.bind_some, slc_tail, Option.bind_some]
    cases blank x <;> rfl
theorem trimRightASCII_eq {s : Bytes} (hs : s.length ≤ maxLen) : strings_trimRightASCII s bset = some (dropR blank s) := by
  unfold strings_trimRightASCII
  rw [loopR blank s.length rfl (fun x t ht => ?_) s (Nat.le_refl _)]
  · rfl
  · unfold strings_trimRightASCII_b1
    rw [dgt_snoc, cond_true, idx_last x t (by omega), Option.bind_some, contains_eq, Option.bind_some, slc_init x t (by omega), Option.bind_some]
    cases blank x <;> rfl
theorem Trim_eq {s : Bytes} (hs : s.length ≤ maxLen) : text_Trim s = some (trim s) := by
  unfold text_Trim strings_Trim
  by_cases h : s = []
  · subst h; rfl
  · have h1 : (s == ([] : Bytes)) = false := by simpa using h
    rw [h1, show (bif false then true else (([32, 9] : Bytes) == ([] : Bytes))) = false from rfl, cond_false, show gidx ((([32, 9] : Bytes).length : Int) == (1 : Int)) ([32, 9] : Bytes) (0 : Int) = some default from rfl, Option.bind_some]
    rw [show (bif ((([32, 9] : Bytes).length : Int) == (1 : Int)) then (decide (((default : UInt8).toNat : Int) < (128 : Int))) else false) = false from rfl, cond_false, bset_eq, Option.bind_some, chk_pos (by unfold bset; simp), chk_pos (by unfold bset; simp)]
    rw [cond_true, trimRightASCII_eq hs, Option.bind_some, trimLeftASCII_eq]; rfl

theorem refblank_eq (b : UInt8) : intarsiaref03_blank (b.toNat : Int) = some (blank b) := by
  unfold intarsiaref03_blank
  exact congrArg some (byte_eq (p := fun b => bif ((b.toNat : Int) == (32 : Int)) then true else ((b.toNat : Int) == (9 : Int))) (q := blank) (by kernel_rfl) b)
theorem gidx_tt {α : Type} [Inhabited α] {g : Bool} {l : List α} {n : Int} (h : g = true) : gidx g l n = idx l n := by subst h; rfl

theorem snoc_ind {P : Bytes → Prop} (h0 : P []) (h1 : ∀ t x, P t → P (t ++ [x])) (s : Bytes) : P s := by
  have : ∀ l : Bytes, P l.reverse := by
    intro l
    induction l with
    | nil => exact h0
    | cons x l ih => rw [List.reverse_cons]; exact h1 _ _ ih
  have h := this s.reverse
  rwa [List.reverse_reverse] at h
/-- What is taken off one end first does not matter. -/
theorem drops_comm (p : UInt8 → Bool) : ∀ (s : Bytes), dropR p (dropL p s) = dropL p (dropR p s) := by
  intro s
  have hall : ∀ (l : Bytes), (∀ x, x ∈ l → p x = true) → dropL p l = [] := by
    intro l hl
    induction l with
    | nil => rfl
    | cons x l ih =>
      unfold dropL
      rw [List.dropWhile_cons_of_pos (hl x (List.mem_cons_self ..))]
      exact ih fun y hy => hl y (List.mem_cons_of_mem _ hy)
  have hrev : ∀ l, dropR p l = (dropL p l.reverse).reverse := fun l => rfl
  -- front: blanks, then one that is not
  rcases Classical.em (∀ x, x ∈ s → p x = true) with ha | hn
  · have e : dropL p s.reverse = [] := hall _ fun x hx => ha x (by simpa using hx)
    rw [hall s ha, hrev s, e]; rfl
  · have hsplit : ∀ (l : Bytes), (¬ ∀ x, x ∈ l → p x = true) → ∃ a y c, l = a ++ y :: c ∧ (∀ x, x ∈ a → p x = true) ∧ p y = false := by
      intro l
      induction l with
      | nil => intro h; exact absurd (by simp) h
      | cons x l ih =>
        intro h
        cases hx : p x with
        | false => exact ⟨[], x, l, rfl, by simp, hx⟩
        | true =>
          obtain ⟨a, y, c, h1, h2, h3⟩ := ih (fun h' => h fun z hz => by
            rcases List.mem_cons.1 hz with rfl | hz
            · exact hx
            · exact h' z hz)
          exact ⟨x :: a, y, c, by rw [h1]; rfl, fun z hz => by
            rcases List.mem_cons.1 hz with rfl | hz
            · exact hx
            · exact h2 z hz, h3⟩
    obtain ⟨a, y, c, rfl, ha, hy⟩ := hsplit s hn
    have hL : ∀ (u : Bytes), dropL p (a ++ y :: u) = y :: u := by
      intro u
      unfold dropL
      rw [List.dropWhile_append_of_pos (by simpa using ha), List.dropWhile_cons_of_neg (by simp [hy])]
    have hR' : ∀ (a : Bytes), dropR p (a ++ y :: c) = a ++ y :: dropR p c := by
      intro a
      clear hL ha hn
      refine snoc_ind (P := fun c => dropR p (a ++ y :: c) = a ++ y :: dropR p c) ?_ (fun c x ih => ?_) c
      · rw [dropR_nil, dropR_snoc, hy]; rfl
      · rw [show a ++ y :: (c ++ [x]) = (a ++ y :: c) ++ [x] by simp, dropR_snoc, dropR_snoc]
        cases p x with
        | true => exact ih
        | false => simp
    rw [hL, hR', hL]
    exact hR' []
theorem refTrim_eq {s : Bytes} (hs : s.length ≤ maxLen) : intarsiaref03_Trim s = some (trim s) := by
  unfold intarsiaref03_Trim
  rw [loopL blank s.length rfl (fun x t ht => ?_) s (Nat.le_refl _), Option.bind_some]
  · have hd := dropL_le blank s
    rw [loopR blank s.length rfl (fun x t ht => ?_) (dropL blank s) hd, Option.bind_some]
    · rw [drops_comm]; rfl
    · unfold intarsiaref03_Trim_b2
      rw [gidx_tt (dgt_snoc x t), idx_last x t (by omega), Option.bind_some, gcall_tt (dgt_snoc x t), refblank_eq, Option.bind_some, dgt_snoc, cond_true, slc_init x t (by omega), Option.bind_some]
      cases blank x <;> rfl
  · unfold intarsiaref03_Trim_b1
    rw [gidx_tt (dgt_cons x t), show idx (x :: t) (0 : Int) = some x from rfl, Option.bind_some, gcall_tt (dgt_cons x t), refblank_eq, Option.bind_some, dgt_cons, cond_true, slc_tail, Option.bind_some]
    cases blank x <;> rfl

/-! ### Prefixes -/
def hasPre (s p : Bytes) : Bool := p.isPrefixOf s
theorem HasPrefix_eq (s p : Bytes) : strings_HasPrefix s p = some (hasPre s p) := by
  unfold strings_HasPrefix stringslite_HasPrefix gslc
  rw [chk_pos (fun h => by simp at h; omega)]
  simp only [Option.bind_some]
  refine congrArg some ?_
  unfold hasPre
  by_cases h : p.length ≤ s.length
  · rw [show decide ((s.length : Int) ≥ (p.length : Int)) = true by simp; omega, cond_true, Bool.eq_iff_iff, beq_iff_eq, List.isPrefixOf_iff_prefix, List.prefix_iff_eq_take]
    simp only [Int.toNat_zero, List.drop_zero, Int.toNat_natCast, Nat.sub_zero]
    exact ⟨fun h => h.symm, fun h => h.symm⟩
  · rw [show decide ((s.length : Int) ≥ (p.length : Int)) = false by simp; omega, cond_false]
    symm
    rw [Bool.eq_false_iff]
    intro hp
    have := (List.isPrefixOf_iff_prefix.1 hp).length_le
    omega

/-! ### Small letters -/
def lowB (b : UInt8) : UInt8 := bif b ≥ 65 && b ≤ 90 then b + 32 else b
def lower (s : Bytes) : Bytes := s.map lowB
theorem lower_len (s : Bytes) : (lower s).length = s.length := by simp [lower]
theorem low1 (b : UInt8) : (bif (bif (decide ((b.toNat : Int) ≥ (65 : Int))) then (decide ((b.toNat : Int) ≤ (90 : Int))) else false) then u8 (IntKind.u8.wrap ((IntKind.u8.wrap ((b.toNat : Int) + (97 : Int))) - (65 : Int))) else b) = lowB b := by
  have := byte_all (p := fun b => (bif (bif (decide ((b.toNat : Int) ≥ (65 : Int))) then (decide ((b.toNat : Int) ≤ (90 : Int))) else false) then u8 (IntKind.u8.wrap ((IntKind.u8.wrap ((b.toNat : Int) + (97 : Int))) - (65 : Int))) else b) == lowB b) (by kernel_rfl) b
  simpa using this
theorem low2 (b : UInt8) : (bif (bif (decide ((b.toNat : Int) ≥ (65 : Int))) then (decide ((b.toNat : Int) ≤ (90 : Int))) else false) then u8 (IntKind.u8.wrap ((b.toNat : Int) + (32 : Int))) else b) = lowB b := by
  have := byte_all (p := fun b => (bif (bif (decide ((b.toNat : Int) ≥ (65 : Int))) then (decide ((b.toNat : Int) ≤ (90 : Int))) else false) then u8 (IntKind.u8.wrap ((b.toNat : Int) + (32 : Int))) else b) == lowB b) (by kernel_rfl) b
  simpa using this
theorem seti_at {α : Type} {l : List α} {i : Nat} {x : α} (h : i < l.length) : seti l (i : Int) x = some (l.set i x) := by
  unfold seti
  rw [chk_pos (by omega), Int.toNat_natCast]
theorem Lower_eq {s : Bytes} (hs : s.length ≤ maxLen) : text_Lower s = some (lower s) := by
  unfold text_Lower
  have key : loopO (text_Lower_b1 s) ((0 : Int), s) = some (lower s) := by
    have h := loopO_rec (body := text_Lower_b1 s) (fun _ => lower s) (fun x => s.length - x.1.toNat) (fun x => ∃ i : Nat, i ≤ s.length ∧ x = ((i : Int), lower (s.take i) ++ s.drop i)) ?_ ((0 : Int), s) ⟨0, Nat.zero_le _, by simp [lower]⟩
    · exact h
    · rintro _ ⟨i, hi, rfl⟩
      rcases Nat.lt_or_ge i s.length with hlt | hge
      · left
        have hget : (lower (s.take i) ++ s.drop i)[i]? = some s[i] := by
          rw [List.getElem?_append_right (by simp [lower]; omega)]
          simp [lower, show min i s.length = i by omega]
        have hll : (lower (s.take i) ++ s.drop i).length = s.length := by simp [lower]; omega
        refine ⟨(((i + 1 : Nat) : Int), lower (s.take (i + 1)) ++ s.drop (i + 1)), ?_, ⟨i + 1, hlt, rfl⟩, by simp; omega, rfl⟩
        have hnew : (lower (s.take i) ++ s.drop i).set i (lowB s[i]) = lower (s.take (i + 1)) ++ s.drop (i + 1) := by
          rw [List.take_succ_eq_append_getElem hlt, List.drop_eq_getElem_cons hlt]
          have hl : (lower (s.take i)).length = i := by simp [lower]; omega
          rw [List.set_append_right _ _ (by omega), hl, Nat.sub_self, List.set_cons_zero]
          unfold lower
          rw [List.map_append, List.append_assoc]; rfl
        have hsame : lowB s[i] = s[i] → lower (s.take i) ++ s.drop i = lower (s.take (i + 1)) ++ s.drop (i + 1) := fun h => by
          rw [← hnew, h]
          refine (List.ext_getElem? fun j => ?_)
          rw [List.getElem?_set]
          by_cases hj : i = j
          · subst hj; rw [if_pos rfl, if_pos (by omega), hget]
          · rw [if_neg hj]
        unfold text_Lower_b1
        dsimp only
        rw [dlt_true hlt, cond_true, chk_pos (by omega), idx_at hget, Option.bind_some, chk_pos (by omega), seti_at (by omega), Option.bind_some, wrap_inc hlt hs]
        have h1 := low1 s[i]
        cases hc : (bif (decide ((s[i].toNat : Int) ≥ (65 : Int))) then (decide ((s[i].toNat : Int) ≤ (90 : Int))) else false) with
        | true =>
          rw [hc, cond_true] at h1
          rw [h1, hnew]; rfl
        | false =>
          rw [hc, cond_false] at h1
          rw [cond_false, hsame h1.symm]
      · right
        have : i = s.length := by omega
        subst this
        unfold text_Lower_b1
        dsimp only
        rw [dlt_self]
        simp [lower]
  rw [key, Option.bind_some, chk_pos (by rw [lower_len]; exact Nat.le_refl _), List.take_of_length_le (by rw [lower_len]; exact Nat.le_refl _)]
theorem Same_eq {s t : Bytes} (hs : s.length ≤ maxLen) (ht : t.length ≤ maxLen) : text_Same s t = some (lower s == lower t) := by
  unfold text_Same
  rw [Lower_eq hs, Option.bind_some, Lower_eq ht]; rfl
theorem cat_ok {s t : Bytes} (h : s.length + t.length ≤ maxLen) : cat s t = some (s ++ t) := by unfold cat; exact chk_pos h
theorem refLower_eq {s : Bytes} (hs : s.length ≤ maxLen) : intarsiaref03_Lower s = some (lower s) := by
  unfold intarsiaref03_Lower
  have hfold : ∀ (l acc : Bytes), foldE (ρ := Bytes) (fun a b => .inl (a ++ [lowB b])) (fun a => a) l acc = acc ++ lower l := by
    intro l
    induction l with
    | nil => intro acc; simp [foldE, lower]
    | cons x l ih =>
      intro acc
      show foldE _ _ l (acc ++ [lowB x]) = _
      rw [ih]; simp [lower]
  have key := loop_list (body := intarsiaref03_Lower_b1 s) s (fun i b => (b, (i : Int))) (fun a b => .inl (a ++ [lowB b])) (fun a => a) (fun i b => b.length = i) (fun i b x hx hi => ?_) (fun b hi => ?_) [] rfl
  · rw [show (([] : Bytes), (0 : Int)) = (([] : Bytes), ((0 : Nat) : Int)) from rfl, key, hfold]; rfl
  · have hlt := lt_of_get hx
    refine .inl ⟨_, rfl, ?_, by simp [hi]⟩
    unfold intarsiaref03_Lower_b1
    dsimp only
    rw [dlt_true hlt, cond_true, idx_at hx, Option.bind_some, cat_ok (by simp; omega), cat_ok (by simp; omega), Option.bind_some, Option.bind_some, wrap_inc hlt hs, u8_nat]
    have h2 := low2 x
    cases hc : (bif (decide ((x.toNat : Int) ≥ (65 : Int))) then (decide ((x.toNat : Int) ≤ (90 : Int))) else false) with
    | true => rw [hc, cond_true] at h2; rw [cond_true, h2]
    | false => rw [hc, cond_false] at h2; rw [cond_false, ← h2]
  · unfold intarsiaref03_Lower_b1
    dsimp only
    rw [dlt_self]; rfl
theorem refSame_eq {s t : Bytes} (hs : s.length ≤ maxLen) (ht : t.length ≤ maxLen) : intarsiaref04_same s t = some (lower s == lower t) := by
  unfold intarsiaref04_same
  rw [refLower_eq hs, Option.bind_some, refLower_eq ht]; rfl
end Go.Proofs.YtbgldnleackgeaaDoor
