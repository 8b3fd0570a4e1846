/-
  Plain laws of the wire, 10: WireEnds.
-/
import Derived.Test.YtkfoahoplndelaaGreatDoorPw0
namespace Go.Proofs.YtkfoahoplndelaaGreatDoor
open Go Go.Pm
set_option linter.unusedVariables false
set_option maxRecDepth 100000
/-! ### It is told, and so -/
def Tot {α : Type} (o : Option α) (P : α → Prop) : Prop := ∃ x, o = some x ∧ P x
section
variable {α β : Type} {P : α → Prop} {Q : β → Prop}
theorem Tot.now {x : α} (h : P x) : Tot (some x) P := ⟨x, rfl, h⟩
theorem Tot.eq {o : Option α} {x : α} (h : o = some x) (hx : P x) : Tot o P := ⟨x, h, hx⟩
theorem Tot.bind {o : Option α} {f : α → Option β} (h : Tot o P) (k : ∀ x, P x → Tot (f x) Q) : Tot (o.bind f) Q := by
  obtain ⟨x, rfl, hx⟩ := h; exact k x hx
theorem Tot.mono {o : Option α} {P' : α → Prop} (h : Tot o P) (k : ∀ x, P x → P' x) : Tot o P' := by
  obtain ⟨x, h1, h2⟩ := h; exact ⟨x, h1, k x h2⟩
theorem Tot.br {b : Bool} {x y : Option α} (h1 : b = true → Tot x P) (h2 : b = false → Tot y P) : Tot (bif b then x else y) P := by
  cases b with
  | true => exact h1 rfl
  | false => exact h2 rfl
theorem Tot.guard [Inhabited α] {g : Bool} {o : Option α} (h : g = true → Tot o P) : Tot (gcall g o) (fun x => g = true → P x) := by
  cases g with
  | true => obtain ⟨x, h1, h2⟩ := h rfl; exact ⟨x, h1, fun _ => h2⟩
  | false => exact ⟨default, rfl, fun h => by cases h⟩
theorem Tot.chk {p : Prop} [Decidable p] {o : Option α} (hp : p) (h : Tot o P) : Tot (Pm.chk p o) P := by rw [chk_pos hp]; exact h
end
theorem loop_tot {σ ρ : Type} {body : σ → Option (σ ⊕ ρ)} (μ : σ → Nat) (Inv : σ → Prop) (Q : ρ → Prop)
    (h : ∀ x, Inv x → (∃ y, body x = some (.inl y) ∧ Inv y ∧ μ y < μ x) ∨ ∃ r, body x = some (.inr r) ∧ Q r) : ∀ x, Inv x → Tot (loopO body x) Q := by
  have key : ∀ n x, μ x ≤ n → Inv x → Tot (loopO body x) Q := by
    intro n
    induction n with
    | zero =>
      intro x hx hi
      rw [loopO_eq]
      rcases h x hi with ⟨y, h1, h2, h3⟩ | ⟨r, h1, h2⟩
      · omega
      · rw [h1]; exact ⟨r, rfl, h2⟩
    | succ n ih =>
      intro x hx hi
      rw [loopO_eq]
      rcases h x hi with ⟨y, h1, h2, h3⟩ | ⟨r, h1, h2⟩
      · rw [h1]; exact ih y (by omega) h2
      · rw [h1]; exact ⟨r, rfl, h2⟩
  exact fun x => key (μ x) x (Nat.le_refl _)
theorem slc_tot {α : Type} {l : List α} {a b : Int} (h : 0 ≤ a ∧ a ≤ b ∧ b ≤ (l.length : Int)) : Tot (slc l a b) (fun x => x = (l.drop a.toNat).take (b.toNat - a.toNat)) := by
  unfold slc; rw [chk_pos h]; exact ⟨_, rfl, rfl⟩
/-! ### Bytes found -/
theorem indexByte_range (s : Bytes) (c : UInt8) : Lib.indexByte s c = -1 ∨ (0 ≤ Lib.indexByte s c ∧ Lib.indexByte s c < (s.length : Int)) := by
  induction s with
  | nil => exact .inl rfl
  | cons b l ih =>
    unfold Lib.indexByte
    split
    · right; simp
    · split
      · exact .inl rfl
      · rename_i h1 h2
        have h2 : Lib.indexByte l c ≠ -1 := by simpa using h2
        right
        rcases ih with h | ⟨h3, h4⟩
        · exact absurd h h2
        · simp; omega
theorem sIndex_one (s : Bytes) (c : UInt8) : stringslite_Index s [c] = some (Lib.indexByte s c) := by
  unfold stringslite_Index
  have e1 : (((([c] : Bytes).length : Nat) : Int) == (0 : Int)) = false := rfl
  have e2 : (((([c] : Bytes).length : Nat) : Int) == (1 : Int)) = true := rfl
  rw [e1, e2, cond_false, cond_true]
  cases h : (([c] : Bytes) == s) with
  | true => rw [← eq_of_beq h]; simp [Lib.indexByte]
  | false =>
    rw [cond_false]
    show ((idx [c] ((0 : Nat) : Int)).bind _) = _
    rw [idx_at (x := c) rfl, Option.bind_some]
    show some (Lib.indexByte s (u8 (c.toNat : Int))) = _
    rw [u8_nat]
def cutC (c : UInt8) : Bytes → Bytes × Bytes × Bool
  | [] => ([], [], false)
  | x :: s => bif x == c then ([], s, true) else (x :: (cutC c s).1, (cutC c s).2)
theorem cutC_index (c : UInt8) : ∀ (s : Bytes), (Lib.indexByte s c = -1 ∧ cutC c s = (s, [], false)) ∨ ∃ i : Nat, Lib.indexByte s c = (i : Int) ∧ i < s.length ∧ cutC c s = (s.take i, s.drop (i + 1), true)
  | [] => .inl ⟨rfl, rfl⟩
  | x :: s => by
    unfold Lib.indexByte cutC
    cases hx : (x == c) with
    | true => exact .inr ⟨0, rfl, by simp, by simp⟩
    | false =>
      rcases cutC_index c s with ⟨h1, h2⟩ | ⟨i, h1, h2, h3⟩
      · left; rw [h1, h2]; exact ⟨rfl, rfl⟩
      · right
        refine ⟨i + 1, ?_, by simpa using h2, by rw [h3]; simp⟩
        rw [h1]
        have : ((i : Int) == -1) = false := by simp
        simp [this]
theorem Cut_one {s : Bytes} (c : UInt8) (hs : s.length ≤ maxLen) : strings_Cut s [c] = some (cutC c s) := by
  unfold strings_Cut stringslite_Cut
  rw [sIndex_one, Option.bind_some]
  rcases cutC_index c s with ⟨h1, h2⟩ | ⟨i, h1, h2, h3⟩
  · rw [h1, h2]; rfl
  · rw [h1, h3]
    have e : decide ((i : Int) ≥ (0 : Int)) = true := by simp
    have e2 : IntKind.i64.wrap ((i : Int) + (((([c] : Bytes).length : Nat) : Int))) = ((i + 1 : Nat) : Int) := by
      rw [wrap_i64 (by simp; omega) (by unfold maxLen at hs; simp; omega)]; simp
    rw [e, cond_true, e2]
    have h4 : slc s 0 (i : Int) = some (s.take i) := by unfold slc; rw [chk_pos (by omega)]; simp
    have h5 : slc s ((i + 1 : Nat) : Int) (s.length : Int) = some (s.drop (i + 1)) := by
      unfold slc
      rw [chk_pos (by omega)]
      show some ((s.drop (i + 1)).take (s.length - (i + 1))) = _
      rw [List.take_of_length_le (by rw [List.length_drop]; exact Nat.le_refl _)]
    rw [h4, Option.bind_some, h5]; rfl
theorem cutC_le (c : UInt8) (s : Bytes) : (cutC c s).1.length ≤ s.length ∧ (cutC c s).2.1.length ≤ s.length := by
  rcases cutC_index c s with ⟨_, h⟩ | ⟨i, _, h1, h⟩
  · rw [h]; exact ⟨Nat.le_refl _, Nat.zero_le _⟩
  · rw [h]; simp; omega
theorem Contains_one (s : Bytes) (c : UInt8) : strings_Contains s [c] = some (decide (Lib.indexByte s c ≥ (0 : Int))) := by
  unfold strings_Contains strings_Index
  rw [sIndex_one]; rfl
/-! ### Ends of texts -/
theorem TrimS_tot {s : Bytes} (c : UInt8) (hs : s.length ≤ maxLen) : Tot (strings_TrimSuffix s [c]) (fun r => r.length ≤ s.length) := by
  unfold strings_TrimSuffix
  refine Tot.bind (P := fun r => r.length ≤ s.length) ?_ (fun x hx => .now hx)
  unfold stringslite_TrimSuffix
  refine Tot.bind (P := fun b => b = true → 1 ≤ s.length) ?_ (fun b hb => ?_)
  · unfold stringslite_HasSuffix
    by_cases h : 1 ≤ s.length
    · have e : gslc (decide ((s.length : Int) ≥ ((([c] : Bytes).length : Nat) : Int))) s (IntKind.i64.wrap ((s.length : Int) - ((([c] : Bytes).length : Nat) : Int))) (s.length : Int) = some ((s.drop (s.length - 1)).take (s.length - (s.length - 1))) := by
        unfold gslc
        rw [wrap_i64 (by simp; omega) (by simp; unfold maxLen at hs; omega), chk_pos (fun _ => ⟨by simp; omega, by simp; omega, Int.le_refl _⟩)]
        have : ((s.length : Int) - ((([c] : Bytes).length : Nat) : Int)).toNat = s.length - 1 := by simp
        rw [this, Int.toNat_natCast]
      rw [e, Option.bind_some]
      exact ⟨_, rfl, fun _ => h⟩
    · have h0 : s = [] := List.eq_nil_of_length_eq_zero (by omega)
      subst h0
      exact ⟨_, rfl, fun h => by cases h⟩
  · refine Tot.br (fun h => ?_) (fun _ => .now (Nat.le_refl _))
    have h1 := hb h
    refine Tot.bind (slc_tot ?_) (fun x hx => .now ?_)
    · rw [wrap_i64 (by simp; omega) (by simp; unfold maxLen at hs; omega)]; simp; omega
    · rw [hx]; simp; omega
theorem TrimP_eq {s p : Bytes} (hs : s.length ≤ maxLen) : strings_TrimPrefix s p = some (bif hasPre s p then s.drop p.length else s) := by
  unfold strings_TrimPrefix stringslite_TrimPrefix
  have h := HasPrefix_eq s p
  have h2 : stringslite_HasPrefix s p = some (hasPre s p) := by
    unfold strings_HasPrefix at h
    cases hx : stringslite_HasPrefix s p with
    | none => rw [hx] at h; cases h
    | some y => rw [hx] at h; exact h
  rw [h2, Option.bind_some]
  cases hb : hasPre s p with
  | false => rfl
  | true =>
    have hl : p.length ≤ s.length := by
      unfold hasPre at hb
      obtain ⟨t, rfl⟩ := List.isPrefixOf_iff_prefix.1 hb
      simp
    rw [cond_true, cond_true]
    unfold slc
    rw [chk_pos (by omega)]
    show some ((s.drop p.length).take (s.length - p.length)) = _
    rw [List.take_of_length_le (by simp)]
/-! ### Lines -/
theorem items_tot {s : Bytes} (hs : s.length ≤ 1000000) : ∀ (k : Nat) (a : Nat), a ≤ s.length → s.length < k + a → Tot (head_items s k (a : Int)) (fun l => ∀ x, x ∈ l → (a : Int) < x.2 ∧ x.2 ≤ (s.length : Int) ∧ x.1.length ≤ s.length) := by
  intro k
  induction k with
  | zero =>
    intro a ha h
    omega
  | succ k ih =>
    intro a ha h
    unfold head_items
    refine Tot.br (fun hd => ?_) (fun hd => .now fun x hx => by cases hx)
    have hd := of_decide_eq_true hd
    refine Tot.bind (slc_tot ⟨by omega, by omega, Int.le_refl _⟩) (fun t ht => ?_)
    have htl : t.length = s.length - a := by rw [ht]; simp
    rw [IndexByte_eq, Option.bind_some]
    have e10 : u8 10 = (10 : UInt8) := rfl
    rw [e10]
    refine Tot.br (fun hn => .now fun x hx => by cases hx) (fun hn => ?_)
    have hn := of_decide_eq_false hn
    have hr := indexByte_range t 10
    generalize Lib.indexByte t 10 = n at hn hr
    rcases hr with hr | ⟨h1, h2⟩
    · omega
    have w1 : IntKind.i64.wrap ((a : Int) + n) = (a : Int) + n := wrap_i64 (by omega) (by omega)
    have w2 : IntKind.i64.wrap (n + 1) = n + 1 := wrap_i64 (by omega) (by omega)
    have w3 : IntKind.i64.wrap ((a : Int) + (n + 1)) = ((a + n.toNat + 1 : Nat) : Int) := by rw [wrap_i64 (by omega) (by omega)]; omega
    rw [w1, w2, w3]
    refine Tot.bind (slc_tot ⟨by omega, by omega, by omega⟩) (fun u hu => ?_)
    have hul : u.length ≤ s.length := by rw [hu]; simp; omega
    refine Tot.bind (TrimS_tot 13 (by unfold maxLen; omega)) (fun line hl => ?_)
    refine Tot.bind (ih (a + n.toNat + 1) (by omega) (by omega)) (fun tl htl2 => .now ?_)
    intro x hx
    rcases List.mem_cons.1 hx with rfl | hx
    · exact ⟨by show (a : Int) < _; omega, by show ((a + n.toNat + 1 : Nat) : Int) ≤ _; omega, by show line.length ≤ _; omega⟩
    · obtain ⟨g1, g2, g3⟩ := htl2 x hx
      exact ⟨by omega, g2, g3⟩
theorem rows_tot {s : Bytes} (hs : s.length ≤ 1000000) : Tot (head_rows s) (fun l => ∀ x, x ∈ l → (0 : Int) < x.2 ∧ x.2 ≤ (s.length : Int) ∧ x.1.length ≤ s.length) := by
  unfold head_rows
  exact items_tot hs (s.length + 1) 0 (by omega) (by omega)
theorem find_range (n : Nat) : ∀ (l : List (Bytes × Int)), (∀ x, x ∈ l → (0 : Int) < x.2 ∧ x.2 ≤ (n : Int) ∧ x.1.length ≤ n) → ((head_find n l).2 = 0 ∧ 1 ≤ (head_find n l).1 ∧ (head_find n l).1 ≤ (n : Int)) ∨ (head_find n l = (0, 3) ∧ n ≤ 4000) ∨ head_find n l = (0, 2)
  | [], _ => by
    unfold head_find
    by_cases h : (n : Int) > 4000
    · rw [decide_eq_true h]; exact .inr (.inr rfl)
    · rw [decide_eq_false h]; exact .inr (.inl ⟨rfl, by omega⟩)
  | (line, a) :: l, h => by
    unfold head_find
    obtain ⟨h1, h2, _⟩ := h _ (List.mem_cons_self ..)
    cases decide (a > 4000) with
    | true => exact .inr (.inr rfl)
    | false =>
      rw [cond_false]
      cases (line == []) with
      | true => exact .inl ⟨rfl, by have : (0 : Int) < a := h1; show (1 : Int) ≤ a; omega, h2⟩
      | false => exact find_range n l (fun x hx => h x (List.mem_cons_of_mem _ hx))
theorem End_tot {s : Bytes} (hs : s.length ≤ 1000000) : Tot (head_End s) (fun r => (r.2 = 0 ∧ 1 ≤ r.1 ∧ r.1 ≤ (s.length : Int)) ∨ (r = (0, 3) ∧ s.length ≤ 4000) ∨ r = (0, 2)) := by
  unfold head_End
  exact Tot.bind (rows_tot hs) (fun l hl => .now (find_range s.length l hl))
/-! ### Fields -/
theorem fold_tot : ∀ (l : List (Bytes × Int)) (out : List S_Field), (∀ x, x ∈ l → x.1.length ≤ 100000) → FRow out → out.length ≤ 40 → Tot (head_fold l out) (fun r => FRow r.1 ∧ r.1.length ≤ 40)
  | [], out, _, h1, h2 => .now ⟨h1, h2⟩
  | (line, a) :: l, out, hl, h1, h2 => by
    have hx := hl _ (List.mem_cons_self ..)
    unfold head_fold
    have hc := cutC_le 58 line
    have nil : FRow [] := ⟨by simp, fun f hf => by cases hf⟩
    rw [Cut_one 58 (by unfold maxLen; exact Nat.le_trans hx (by decide)), Option.bind_some, Trim_eq (by unfold maxLen; have := hc.2; simp at hx; omega), Option.bind_some]
    have hf : (S_Field.mk (cutC 58 line).1 (trim (cutC 58 line).2.1)).Name.length ≤ 100000 ∧ (S_Field.mk (cutC 58 line).1 (trim (cutC 58 line).2.1)).Value.length ≤ 100000 := by
      have := trim_le (cutC 58 line).2.1
      simp at hx ⊢
      omega
    rw [Add_eq h1 ⟨by have := hf.1; unfold maxLen; omega, by have := hf.2; unfold maxLen; omega⟩, Option.bind_some]
    refine Tot.br (fun _ => .now ⟨nil, by simp⟩) (fun _ => ?_)
    refine Tot.br (fun _ => .now ⟨nil, by simp⟩) (fun _ => ?_)
    refine fold_tot l _ (fun x hx => hl x (List.mem_cons_of_mem _ hx)) (addB_row h1 (by omega) hf) ?_
    unfold addB
    cases ((!rightB out) || !mayB (S_Field.mk (cutC 58 line).1 (trim (cutC 58 line).2.1))) with
    | true => simp
    | false =>
      cases he : (out.length == 40) with
      | true => simp
      | false => have : out.length ≠ 40 := by simpa using he
                 simp; omega
theorem HParse_tot {s : Bytes} (hs : s.length ≤ 100000) : Tot (head_Parse s) (fun r => FRow r.1 ∧ r.1.length ≤ 40) := by
  have nil : FRow [] := ⟨by simp, fun f hf => by cases hf⟩
  unfold head_Parse
  refine Tot.br (fun _ => .now ⟨nil, by simp⟩) (fun _ => ?_)
  refine Tot.bind (P := fun _ => True) ?_ (fun b _ => ?_)
  · cases he : (s == ([] : Bytes)) with
    | true => exact ⟨_, rfl, trivial⟩
    | false =>
      have hne : 1 ≤ s.length := by
        rcases s with _ | ⟨x, s⟩
        · simp at he
        · simp
      refine ⟨s[s.length - 1]'(by omega), ?_, trivial⟩
      show gidx true s _ = _
      rw [gidx_tt rfl]
      have e : IntKind.i64.wrap ((s.length : Int) - 1) = ((s.length - 1 : Nat) : Int) := by rw [wrap_i64 (by omega) (by omega)]; omega
      rw [e]
      exact idx_at (List.getElem?_eq_getElem (by omega))
  · refine Tot.br (fun _ => .now ⟨nil, by simp⟩) (fun _ => ?_)
    refine Tot.bind (rows_tot (by omega)) (fun l hl => ?_)
    exact fold_tot l [] (fun x hx => by have := (hl x hx).2.2; omega) nil (by simp)
end Go.Proofs.YtkfoahoplndelaaGreatDoor
namespace Go.Proofs.YtkfoahoplndelaaGreatDoor
open Go Go.Pm
set_option linter.unusedVariables false
set_option maxRecDepth 100000
/-! ### How long a body is -/
def bodyB (asks : Bool) (m : Bytes) (h : S_Message) : S_Body × Int := bif asks then reqB h.Start h.Fields else ansB h.Start h.Fields m
theorem wbody_eq {r : S_Reader} (hs : SSmall r.Head.Start) (hf : FRow r.Head.Fields) : wire_body r = some (bodyB r.Asks r.Method r.Head) := by
  unfold wire_body bodyB
  rw [Request_eq hs hf, Answer_eq hs hf]
  cases r.Asks <;> rfl
def KindOk (b : S_Body) : Prop := b = B 0 0 ∨ (∃ z : Int, 0 ≤ z ∧ z ≤ 20000 ∧ b = B 1 z) ∨ b = B 2 0 ∨ b = B 3 0
theorem sayFold {n : S_Body} (hn : n = B 0 0 ∨ n = B 3 0) : ∀ (l : List Bytes) (c : Option Int), (foldE sayStep (sayFin n) l c).2 = 0 → KindOk (foldE sayStep (sayFin n) l c).1
  | [], none, _ => by
    unfold foldE sayFin
    rcases hn with rfl | rfl
    · exact .inl rfl
    · exact .inr (.inr (.inr rfl))
  | [], some z, h => by
    unfold foldE sayFin at h ⊢
    dsimp only at h ⊢
    by_cases h1 : z < 0
    · rw [decide_eq_true h1] at h; cases h
    · rw [decide_eq_false h1] at h ⊢
      by_cases h2 : z > 20000
      · rw [decide_eq_true h2] at h; cases h
      · rw [decide_eq_false h2]
        exact .inr (.inl ⟨z, by omega, by omega, rfl⟩)
  | x :: l, c, h => by
    rw [foldE_cons] at h ⊢
    cases hs : sayStep c x with
    | inl c' => rw [hs] at h; exact sayFold hn l c' h
    | inr r =>
      rw [hs] at h
      exfalso
      unfold sayStep at hs
      cases hd : ((dec x).2 == 10) with
      | true => rw [hd, cond_true] at hs; cases hs; cases h
      | false =>
        rw [hd, cond_false] at hs
        cases c with
        | none => cases hs
        | some z =>
          cases hz : (sizeOf x == z) with
          | true => simp only [hz, cond_true] at hs; cases hs
          | false => simp only [hz, cond_false] at hs; cases hs; cases h
theorem say_kindW {mi : Int} {l : List S_Field} {n : S_Body} (hn : n = B 0 0 ∨ n = B 3 0) (h : (sayB mi l n).2 = 0) : KindOk (sayB mi l n).1 := by
  unfold sayB at h ⊢
  cases h1 : decide ((valsN l nTE).length > 0) with
  | false => rw [h1, cond_false] at h; rw [cond_false]; exact sayFold hn _ _ h
  | true =>
    rw [h1, cond_true] at h
    rw [cond_true]
    cases h2 : (decide ((valsN l nCL).length > 0) || (mi == 0 || !(lower (Lib.join (valsN l nTE) sep) == chunked))) with
    | true => rw [h2, cond_true] at h; cases h
    | false => rw [cond_false]; exact .inr (.inr (.inl rfl))
structure BodyOk (asks : Bool) (h : S_Message) (b : S_Body) : Prop where
  start : startB h.Start = true
  fields : rightB h.Fields = true
  code : (h.Start.Code == (0 : Int)) = asks
  kind : KindOk b
theorem bodyB_ok {asks : Bool} {m : Bytes} {h : S_Message} (h0 : (bodyB asks m h).2 = 0) : BodyOk asks h (bodyB asks m h).1 := by
  unfold bodyB at h0 ⊢
  cases asks with
  | true =>
    rw [cond_true] at h0 ⊢
    unfold reqB at h0 ⊢
    cases h1 : startB h.Start with
    | false => rw [h1] at h0; cases h0
    | true =>
      cases h2 : (h.Start.Code != (0 : Int)) with
      | true => rw [h1, h2] at h0; cases h0
      | false =>
        cases h3 : rightB h.Fields with
        | false => rw [h1, h2, h3] at h0; cases h0
        | true =>
          rw [h1, h2, h3] at h0
          exact ⟨h1, h3, by simpa using h2, say_kindW (.inl rfl) h0⟩
  | false =>
    rw [cond_false] at h0 ⊢
    unfold ansB at h0 ⊢
    cases h1 : startB h.Start with
    | false => rw [h1] at h0; cases h0
    | true =>
      cases h2 : (h.Start.Code == (0 : Int)) with
      | true => rw [h1, h2] at h0; cases h0
      | false =>
        cases h3 : rightB h.Fields with
        | false => rw [h1, h2, h3] at h0; cases h0
        | true =>
          rw [h1, h2, h3] at h0
          refine ⟨h1, h3, h2, ?_⟩
          revert h0
          show (bif (decide (h.Start.Code < 200) || (h.Start.Code == 204 || (h.Start.Code == 304 || m == ([72, 69, 65, 68] : Bytes)))) then (B 0 0, 0) else sayB h.Start.Minor h.Fields (B 3 0)).2 = (0 : Int) → KindOk (bif (decide (h.Start.Code < 200) || (h.Start.Code == 204 || (h.Start.Code == 304 || m == ([72, 69, 65, 68] : Bytes)))) then (B 0 0, (0 : Int)) else sayB h.Start.Minor h.Fields (B 3 0)).1
          cases (decide (h.Start.Code < 200) || (h.Start.Code == 204 || (h.Start.Code == 304 || m == ([72, 69, 65, 68] : Bytes)))) with
          | true => intro _; exact .inl rfl
          | false => intro h0; exact say_kindW (.inr rfl) h0
/-! ### Hexadecimal numbers -/
theorem u64_id {n : Int} (h : 0 ≤ n) (h' : n < 18446744073709551616) : IntKind.u64.wrap n = n := by
  simp [IntKind.wrap, IntKind.bits, IntKind.signed]
  omega
theorem hex1 (b : UInt8) : Tot (number_ReadHex_1 (b.toNat : Int)) (fun v => 0 ≤ v ∧ v ≤ 16) := by
  have := byte_all (p := fun b => match number_ReadHex_1 (b.toNat : Int) with | some v => decide (0 ≤ v) && decide (v ≤ 16) | none => false) (by kernel_rfl) b
  cases h : number_ReadHex_1 (b.toNat : Int) with
  | none => simp only [h] at this; cases this
  | some v => simp only [h, Bool.and_eq_true, decide_eq_true_eq] at this; exact ⟨v, rfl, this⟩
theorem ReadHex_tot {s : Bytes} (hs : s.length ≤ maxLen) : Tot (number_ReadHex s) (fun r => 0 ≤ r.1 ∧ r.1 ≤ 1099511627776) := by
  unfold number_ReadHex
  refine Tot.bind (P := fun r => 0 ≤ r.1 ∧ r.1 ≤ 1099511627776) ?_ (fun x hx => .now hx)
  unfold number_read_uint64
  refine Tot.br (fun _ => .now (by simp)) (fun _ => ?_)
  refine loop_tot (fun x : Int × Bool × Int => (s.length : Int).toNat - x.2.2.toNat) (fun x => (0 ≤ x.1 ∧ x.1 ≤ 1099511627776) ∧ 0 ≤ x.2.2 ∧ x.2.2 ≤ (s.length : Int)) _ (fun x hx => ?_) _ (by simp [IntKind.wrap, IntKind.bits, IntKind.signed])
  obtain ⟨s1, s2, s3⟩ := x
  obtain ⟨⟨h1, h2⟩, h3, h4⟩ := hx
  simp only at h1 h2 h3 h4
  unfold number_read_uint64_b1
  dsimp only
  by_cases h : s3 < (s.length : Int)
  · rw [decide_eq_true h, cond_true]
    obtain ⟨i, rfl⟩ : ∃ i : Nat, s3 = i := ⟨s3.toNat, by omega⟩
    rw [idx_at (List.getElem?_eq_getElem (show i < s.length by omega)), Option.bind_some]
    obtain ⟨v, hv, hv0, hv1⟩ := hex1 (s[i]'(by omega))
    rw [hv, Option.bind_some, wrap_i64 (by omega) (by unfold maxLen at hs; omega)]
    have e1 : IntKind.u64.wrap (s1 * 16) = s1 * 16 := u64_id (by omega) (by omega)
    have e2 : IntKind.u64.wrap (s1 * 16 + v) = s1 * 16 + v := u64_id (by omega) (by omega)
    rw [e1, e2]
    cases hd : decide (v ≥ (16 : Int)) with
    | true => exact .inr ⟨_, rfl, by simp⟩
    | false =>
      rw [cond_false]
      by_cases hb : s1 * 16 + v > 1099511627776
      · rw [decide_eq_true hb]; exact .inl ⟨_, rfl, ⟨⟨by simp, by simp⟩, by show (0 : Int) ≤ (i : Int) + 1; omega, by show (i : Int) + 1 ≤ _; omega⟩, by show (s.length : Int).toNat - ((i : Int) + 1).toNat < (s.length : Int).toNat - (i : Int).toNat; omega⟩
      · rw [decide_eq_false hb]; exact .inl ⟨_, rfl, ⟨⟨by show (0 : Int) ≤ s1 * 16 + v; omega, by show s1 * 16 + v ≤ _; omega⟩, by show (0 : Int) ≤ (i : Int) + 1; omega, by show (i : Int) + 1 ≤ _; omega⟩, by show (s.length : Int).toNat - ((i : Int) + 1).toNat < (s.length : Int).toNat - (i : Int).toNat; omega⟩
  · rw [decide_eq_false h, cond_false]
    cases s2 with
    | true => exact .inr ⟨_, rfl, by simp⟩
    | false => exact .inr ⟨_, rfl, by simp; omega⟩
/-! ### Chunks -/
structure ChOk (c : S_Chunked) : Prop where
  stage : 0 ≤ c.Stage ∧ c.Stage ≤ 4
  size : 0 ≤ c.Size ∧ c.Size ≤ 20000
  line : c.Line.length ≤ 200 ∧ c.Line.contains 10 = false
  data : c.Stage = 1 → 1 ≤ c.Left ∧ c.Left ≤ 20000 - c.Size ∧ c.Line = []
  rest : c.Stage ≠ 1 → c.Left = 0 ∧ (c.Stage = 4 → c.Line = [])
theorem chRight {c : S_Chunked} : Tot (chunk_Right c) (fun b => b = true ↔ ChOk c) := by
  unfold chunk_Right
  by_cases h : (0 ≤ c.Stage ∧ c.Stage ≤ 4) ∧ (0 ≤ c.Size ∧ c.Size ≤ 20000) ∧ c.Line.length ≤ 200
  · obtain ⟨⟨h1, h2⟩, ⟨h3', h4⟩, h5⟩ := h
    have e : (bif (bif (bif (bif (decide ((c.Stage) < (0 : Int))) then true else (decide ((c.Stage) > (4 : Int)))) then true else (decide ((c.Size) < (0 : Int)))) then true else (decide ((c.Size) > (20000 : Int)))) then true else (decide (((c.Line).length : Int) > (200 : Int)))) = false := by
      rw [decide_eq_false (by omega), decide_eq_false (by omega), decide_eq_false (by omega), decide_eq_false (by omega), decide_eq_false (by omega)]; rfl
    rw [e, gcall_tt (show (!false) = true from rfl), Contains_one, Option.bind_some, indexByte_has, cond_false]
    cases hl : c.Line.contains 10 with
    | true => exact Tot.eq rfl (show (false = true ↔ ChOk c) from ⟨fun h => (by cases h), fun h => absurd (h.line.2.symm.trans hl) (by simp)⟩)
    | false =>
      rw [cond_false]
      by_cases h6 : c.Stage = 1
      · have e6 : (c.Stage == (1 : Int)) = true := by simp [h6]
        rw [e6, cond_true]
        have ew : IntKind.i64.wrap ((20000 : Int) - c.Size) = 20000 - c.Size := wrap_i64 (by omega) (by omega)
        rw [ew]
        refine ⟨_, rfl, ⟨fun h => ?_, fun h => ?_⟩⟩
        · cases d1 : decide (c.Left ≥ 1) with
          | false => rw [d1] at h; cases h
          | true =>
            cases d2 : decide (c.Left ≤ 20000 - c.Size) with
            | false => rw [d1, d2] at h; cases h
            | true =>
              rw [d1, d2] at h
              have h3 : (c.Line == ([] : Bytes)) = true := h
              exact ⟨⟨h1, h2⟩, ⟨h3', h4⟩, ⟨h5, hl⟩, fun _ => ⟨of_decide_eq_true d1, of_decide_eq_true d2, eq_of_beq h3⟩, fun hn => absurd h6 hn⟩
        · obtain ⟨g1, g2, g3⟩ := h.data h6
          rw [decide_eq_true g1, decide_eq_true g2, g3]; rfl
      · have e6 : (c.Stage == (1 : Int)) = false := by simp [h6]
        rw [e6, cond_false]
        refine ⟨_, rfl, ⟨fun h => ?_, fun h => ?_⟩⟩
        · by_cases h7 : c.Left = 0
          · refine ⟨⟨h1, h2⟩, ⟨h3', h4⟩, ⟨h5, hl⟩, fun hn => absurd hn h6, fun _ => ⟨h7, fun h8 => ?_⟩⟩
            rw [h7, h8] at h
            simpa using h
          · have : (c.Left == (0 : Int)) = false := by simp [h7]
            rw [this] at h; cases h
        · obtain ⟨g1, g2⟩ := h.rest h6
          rw [g1]
          by_cases h8 : c.Stage = 4
          · rw [g2 h8, h8]; rfl
          · have : (c.Stage != (4 : Int)) = true := by simp [h8]
            rw [this]; rfl
  · have e : (bif (bif (bif (bif (decide ((c.Stage) < (0 : Int))) then true else (decide ((c.Stage) > (4 : Int)))) then true else (decide ((c.Size) < (0 : Int)))) then true else (decide ((c.Size) > (20000 : Int)))) then true else (decide (((c.Line).length : Int) > (200 : Int)))) = true := by
      by_cases h1 : c.Stage < 0
      · rw [decide_eq_true h1]; rfl
      rw [decide_eq_false h1]
      by_cases h2 : c.Stage > 4
      · rw [decide_eq_true h2]; rfl
      rw [decide_eq_false h2]
      by_cases h3 : c.Size < 0
      · rw [decide_eq_true h3]; rfl
      rw [decide_eq_false h3]
      by_cases h4 : c.Size > 20000
      · rw [decide_eq_true h4]; rfl
      rw [decide_eq_false h4]
      have h5 : ((c.Line).length : Int) > (200 : Int) := by omega
      rw [decide_eq_true h5]; rfl
    rw [e, gcall_ff (show (!true) = false from rfl), Option.bind_some]
    exact Tot.eq rfl (show (false = true ↔ ChOk c) from ⟨fun h => (by cases h), fun hc => absurd ⟨hc.stage, hc.size, hc.line.1⟩ h⟩)
noncomputable def lineG (f : S_chunk_state → Bytes → Option (Unit × S_chunk_state)) (o0 : S_chunk_state) (a1 : Bytes) : Option (Int × S_chunk_state) :=
  (strings_IndexByte a1 (10 : Int)).bind fun x1 =>
    bif (decide (x1 ≥ (0 : Int))) then
      (slc a1 0 x1).bind fun x2 =>
      bif (decide ((IntKind.i64.wrap ((((o0.Chunked).Line).length : Int) + (x2.length : Int))) > (200 : Int))) then
        some ((0 : Int), (S_chunk_state.mk (o0.Chunked) (33 : Int)))
      else
        (cat ((o0.Chunked).Line) x2).bind fun x3 =>
        bif (decide (x1 < (0 : Int))) then
          some ((a1.length : Int), (S_chunk_state.mk (S_Chunked.mk ((o0.Chunked).Stage) x3 ((o0.Chunked).Left) ((o0.Chunked).Size)) (o0.bad)))
        else
          (strings_TrimSuffix x3 ([13] : Bytes)).bind fun x4 =>
          (f (S_chunk_state.mk (S_Chunked.mk ((o0.Chunked).Stage) ([] : Bytes) ((o0.Chunked).Left) ((o0.Chunked).Size)) (o0.bad)) x4).bind fun x5 =>
          some ((IntKind.i64.wrap (x1 + (1 : Int))), (x5.2))
    else
      bif (decide ((IntKind.i64.wrap ((((o0.Chunked).Line).length : Int) + (a1.length : Int))) > (200 : Int))) then
        some ((0 : Int), (S_chunk_state.mk (o0.Chunked) (33 : Int)))
      else
        (cat ((o0.Chunked).Line) a1).bind fun x6 =>
        bif (decide (x1 < (0 : Int))) then
          some ((a1.length : Int), (S_chunk_state.mk (S_Chunked.mk ((o0.Chunked).Stage) x6 ((o0.Chunked).Left) ((o0.Chunked).Size)) (o0.bad)))
        else
          (strings_TrimSuffix x6 ([13] : Bytes)).bind fun x7 =>
          (f (S_chunk_state.mk (S_Chunked.mk ((o0.Chunked).Stage) ([] : Bytes) ((o0.Chunked).Left) ((o0.Chunked).Size)) (o0.bad)) x7).bind fun x8 =>
          some ((IntKind.i64.wrap (x1 + (1 : Int))), (x8.2))
theorem line_eq (o0 : S_chunk_state) (a1 : Bytes) : chunk_state_line o0 a1 = bif (((o0.Chunked).Stage) == (2 : Int)) then lineG chunk_state_end o0 a1 else bif (((o0.Chunked).Stage) == (3 : Int)) then lineG chunk_state_tail o0 a1 else lineG chunk_state_size o0 a1 := rfl
def LineQ (c : S_Chunked) (n : Nat) (r : Int × S_chunk_state) : Prop := r.2.bad ≠ 0 ∨ (1 ≤ r.1 ∧ r.1 ≤ (n : Int) ∧ r.2.bad = 0 ∧ ChOk r.2.Chunked ∧ r.2.Chunked.Size = c.Size)
theorem lineG_tot {f : S_chunk_state → Bytes → Option (Unit × S_chunk_state)} {c : S_Chunked} {a1 : Bytes} (hc : ChOk c) (h1 : c.Stage ≠ 1) (h4 : c.Stage ≠ 4) (ha : 1 ≤ a1.length) (hl : a1.length ≤ 1000000)
    (hf : ∀ x : Bytes, x.length ≤ 200 → Tot (f (S_chunk_state.mk (S_Chunked.mk c.Stage ([] : Bytes) c.Left c.Size) 0) x) (fun r => r.2.bad ≠ 0 ∨ (r.2.bad = 0 ∧ ChOk r.2.Chunked ∧ r.2.Chunked.Size = c.Size))) :
    Tot (lineG f (S_chunk_state.mk c 0) a1) (LineQ c a1.length) := by
  unfold lineG
  have hll := hc.line.1
  rw [IndexByte_eq, Option.bind_some]
  have e10 : u8 10 = (10 : UInt8) := rfl
  rw [e10]
  have hr := indexByte_range a1 10
  have hh := indexByte_has a1 10
  generalize Lib.indexByte a1 10 = n at hr hh
  refine Tot.br (fun hn => ?_) (fun hn => ?_)
  · have hn := of_decide_eq_true hn
    rcases hr with hr | ⟨hr1, hr2⟩
    · omega
    refine Tot.bind (slc_tot ⟨Int.le_refl _, hr1, by omega⟩) (fun x2 hx2 => ?_)
    have hx2l : x2.length = n.toNat := by rw [hx2]; simp; omega
    have ew : IntKind.i64.wrap (((c.Line).length : Int) + (x2.length : Int)) = ((c.Line).length : Int) + (x2.length : Int) := wrap_i64 (by omega) (by omega)
    refine Tot.br (fun _ => .now (.inl (by simp))) (fun hb => ?_)
    have hb : ¬ (IntKind.i64.wrap (((c.Line).length : Int) + (x2.length : Int)) > 200) := of_decide_eq_false hb
    rw [ew] at hb
    have hcat : cat c.Line x2 = some (c.Line ++ x2) := by unfold cat; rw [chk_pos (by unfold maxLen; omega)]
    show Tot ((cat c.Line x2).bind _) _
    rw [hcat, Option.bind_some, decide_eq_false (show ¬ n < 0 by omega), cond_false]
    refine Tot.bind (TrimS_tot 13 (by unfold maxLen; simp; omega)) (fun x4 hx4 => ?_)
    refine Tot.bind (hf x4 (by simp at hx4; omega)) (fun x5 hx5 => .now ?_)
    rw [wrap_i64 (by omega) (by omega)]
    rcases hx5 with h | ⟨g1, g2, g3⟩
    · exact .inl h
    · exact .inr ⟨by show 1 ≤ n + 1; omega, by show n + 1 ≤ _; omega, g1, g2, g3⟩
  · have hno := hn
    have hn := of_decide_eq_false hn
    refine Tot.br (fun _ => .now (.inl (by simp))) (fun hb => ?_)
    have hb : ¬ (IntKind.i64.wrap (((c.Line).length : Int) + (a1.length : Int)) > 200) := of_decide_eq_false hb
    rw [wrap_i64 (by omega) (by omega)] at hb
    have hcat : cat c.Line a1 = some (c.Line ++ a1) := by unfold cat; rw [chk_pos (by unfold maxLen; omega)]
    show Tot ((cat c.Line a1).bind _) _
    rw [hcat, Option.bind_some, decide_eq_true (show n < 0 by omega), cond_true]
    refine .now (.inr ⟨by show (1 : Int) ≤ (a1.length : Int); omega, Int.le_refl _, rfl, ?_, rfl⟩)
    have h3 : a1.contains 10 = false := hh.symm.trans hno
    refine ⟨hc.stage, hc.size, ⟨by show (c.Line ++ a1).length ≤ 200; simp; omega, ?_⟩, fun h => absurd h h1, fun h => ⟨(hc.rest h1).1, fun h => absurd h h4⟩⟩
    show (c.Line ++ a1).contains 10 = false
    have h2 := hc.line.2
    simp only [List.contains_eq_mem, List.mem_append, decide_eq_false_iff_not] at h2 h3 ⊢
    intro h; exact h.elim h2 h3
theorem end_tot {c : S_Chunked} (hc : ChOk c) (h1 : c.Stage ≠ 1) (x : Bytes) : Tot (chunk_state_end (S_chunk_state.mk (S_Chunked.mk c.Stage ([] : Bytes) c.Left c.Size) 0) x) (fun r => r.2.bad ≠ 0 ∨ (r.2.bad = 0 ∧ ChOk r.2.Chunked ∧ r.2.Chunked.Size = c.Size)) := by
  unfold chunk_state_end
  refine Tot.br (fun _ => .now (.inl (by simp))) (fun _ => .now (.inr ⟨rfl, ?_, rfl⟩))
  exact ⟨by simp, hc.size, ⟨by simp, by simp⟩, fun h => (by cases h), fun _ => ⟨(hc.rest h1).1, fun h => by cases h⟩⟩
theorem tail_tot {c : S_Chunked} (hc : ChOk c) (h1 : c.Stage ≠ 1) (h3 : c.Stage = 3) (x : Bytes) : Tot (chunk_state_tail (S_chunk_state.mk (S_Chunked.mk c.Stage ([] : Bytes) c.Left c.Size) 0) x) (fun r => r.2.bad ≠ 0 ∨ (r.2.bad = 0 ∧ ChOk r.2.Chunked ∧ r.2.Chunked.Size = c.Size)) := by
  unfold chunk_state_tail
  refine Tot.br (fun _ => .now (.inr ⟨rfl, ?_, rfl⟩)) (fun _ => .now (.inr ⟨rfl, ?_, rfl⟩))
  · exact ⟨by simp, hc.size, ⟨by simp, by simp⟩, fun h => (by cases h), fun _ => ⟨(hc.rest h1).1, fun h => rfl⟩⟩
  · exact ⟨hc.stage, hc.size, ⟨by simp, by simp⟩, fun h => absurd h h1, fun _ => ⟨(hc.rest h1).1, fun h => rfl⟩⟩
theorem size_tot {c : S_Chunked} (hc : ChOk c) (h1 : c.Stage ≠ 1) (x : Bytes) (hx : x.length ≤ 200) : Tot (chunk_state_size (S_chunk_state.mk (S_Chunked.mk c.Stage ([] : Bytes) c.Left c.Size) 0) x) (fun r => r.2.bad ≠ 0 ∨ (r.2.bad = 0 ∧ ChOk r.2.Chunked ∧ r.2.Chunked.Size = c.Size)) := by
  unfold chunk_state_size
  have hcut := cutC_le 59 x
  have htr := trim_le (cutC 59 x).1
  rw [Cut_one 59 (by unfold maxLen; omega), Option.bind_some, Trim_eq (by unfold maxLen; omega), Option.bind_some]
  refine Tot.bind (ReadHex_tot (by unfold maxLen; omega)) (fun v hv => ?_)
  obtain ⟨hv0, hv1⟩ := hv
  have hsz := hc.size
  refine Tot.br (fun _ => .now (.inl (by simp))) (fun _ => ?_)
  refine Tot.br (fun _ => .now (.inl (by simp))) (fun hb => ?_)
  have ew : IntKind.u64.wrap (IntKind.i64.wrap ((20000 : Int) - c.Size)) = 20000 - c.Size := by rw [wrap_i64 (by omega) (by omega), u64_id (by omega) (by omega)]
  have hle : v.1 ≤ 20000 - c.Size := by
    cases hd : decide (v.1 > (IntKind.u64.wrap (IntKind.i64.wrap ((20000 : Int) - c.Size)))) with
    | true =>
      have hb2 : (bif (v.2 != (0 : Int)) then true else (decide (v.1 > (IntKind.u64.wrap (IntKind.i64.wrap ((20000 : Int) - c.Size)))))) = false := hb
      rw [hd] at hb2
      cases hx : (v.2 != (0 : Int)) <;> rw [hx] at hb2 <;> cases hb2
    | false => have := of_decide_eq_false hd; rw [ew] at this; omega
  refine Tot.br (fun _ => .now (.inr ⟨rfl, ?_, rfl⟩)) (fun hz => .now (.inr ⟨rfl, ?_, rfl⟩))
  · exact ⟨by simp, hc.size, ⟨by simp, by simp⟩, fun h => (by cases h), fun _ => ⟨(hc.rest h1).1, fun h => by cases h⟩⟩
  · have hz : v.1 ≠ 0 := by simpa using hz
    have ew2 : IntKind.i64.wrap v.1 = v.1 := wrap_i64 (by omega) (by omega)
    refine ⟨by simp, hc.size, ⟨by simp, by simp⟩, fun _ => ⟨?_, ?_, rfl⟩, fun h => absurd rfl h⟩
    · show 1 ≤ IntKind.i64.wrap v.1; rw [ew2]; omega
    · show IntKind.i64.wrap v.1 ≤ 20000 - c.Size; rw [ew2]; exact hle
theorem line_tot {c : S_Chunked} {a1 : Bytes} (hc : ChOk c) (h1 : c.Stage ≠ 1) (h4 : c.Stage ≠ 4) (ha : 1 ≤ a1.length) (hl : a1.length ≤ 1000000) : Tot (chunk_state_line (S_chunk_state.mk c 0) a1) (LineQ c a1.length) := by
  rw [line_eq]
  refine Tot.br (fun _ => lineG_tot hc h1 h4 ha hl fun x _ => end_tot hc h1 x) (fun _ => ?_)
  refine Tot.br (fun h3 => lineG_tot hc h1 h4 ha hl fun x _ => tail_tot hc h1 (by simpa using h3) x) (fun _ => ?_)
  exact lineG_tot hc h1 h4 ha hl fun x hx => size_tot hc h1 x hx
structure FeedQ (c : S_Chunked) (t : Bytes) (r : S_Chunked × Bytes × Int × Int) : Prop where
  ok : ChOk r.1
  took : 0 ≤ r.2.2.1 ∧ r.2.2.1 ≤ (t.length : Int)
  all : r.1.Stage ≠ 4 → r.2.2.1 = (t.length : Int)
  size : r.1.Size = c.Size + (r.2.1.length : Int)
  bad : r.2.2.2 = 0
theorem CFeed_tot {c : S_Chunked} {t : Bytes} (hc : ChOk c) (ht : t.length ≤ 1000000) : Tot (chunk_Feed c t) (fun r => r.2.2.2 ≠ 0 ∨ FeedQ c t r) := by
  unfold chunk_Feed
  obtain ⟨b, hb, hb2⟩ := chRight (c := c)
  rw [hb, hb2.2 hc, Option.bind_some]
  show Tot (loopO (chunk_Feed_b1 t) ((0 : Int), (S_chunk_state.mk c (0 : Int)), ([] : Bytes))) _
  refine loop_tot (fun x : Int × S_chunk_state × Bytes => t.length - x.1.toNat) (fun x => (0 ≤ x.1 ∧ x.1 ≤ (t.length : Int)) ∧ x.2.1.bad = 0 ∧ ChOk x.2.1.Chunked ∧ x.2.1.Chunked.Size = c.Size + (x.2.2.length : Int)) _ (fun x hx => ?_) _ ⟨⟨by simp, by simp⟩, rfl, hc, by simp⟩
  obtain ⟨a, ⟨c1, bd⟩, d⟩ := x
  obtain ⟨⟨h1, h2⟩, h3, h4, h5⟩ := hx
  simp only at h1 h2 h3 h4 h5
  subst h3
  have hdl : d.length ≤ 20000 := by have := h4.size; have := hc.size; omega
  unfold chunk_Feed_b1
  dsimp only
  by_cases hlt : a < (t.length : Int)
  · rw [decide_eq_true hlt, cond_true]
    by_cases hs4 : c1.Stage = 4
    · have e : (c1.Stage != (4 : Int)) = false := by simp [hs4]
      rw [e, cond_false]
      refine .inr ⟨_, by unfold bcat; rw [if_pos (by simp; omega)]; rfl, .inr ⟨h4, ⟨h1, h2⟩, fun h => absurd hs4 h, h5, rfl⟩⟩
    · have e : (c1.Stage != (4 : Int)) = true := by simp [hs4]
      rw [e, cond_true]
      by_cases hs1 : c1.Stage = 1
      · have e1 : (c1.Stage != (1 : Int)) = false := by simp [hs1]
        obtain ⟨g1, g2, g3⟩ := h4.data hs1
        have hsz := h4.size
        rw [e1, cond_false]
        have ew : IntKind.i64.wrap ((t.length : Int) - a) = (t.length : Int) - a := wrap_i64 (by omega) (by omega)
        rw [ew]
        obtain ⟨m, hm, hm1, hm2, hm3⟩ : ∃ m, imin c1.Left ((t.length : Int) - a) = m ∧ 1 ≤ m ∧ m ≤ c1.Left ∧ m ≤ (t.length : Int) - a := by
          refine ⟨_, rfl, ?_⟩
          unfold imin
          split <;> omega
        rw [hm]
        have ew2 : IntKind.i64.wrap (a + m) = a + m := wrap_i64 (by omega) (by omega)
        have ew3 : IntKind.i64.wrap (c1.Left - m) = c1.Left - m := wrap_i64 (by omega) (by omega)
        have ew4 : IntKind.i64.wrap (c1.Size + m) = c1.Size + m := wrap_i64 (by omega) (by omega)
        rw [ew2, ew3, ew4]
        have hsl : slc t a (a + m) = some ((t.drop a.toNat).take ((a + m).toNat - a.toNat)) := by unfold slc; rw [chk_pos ⟨h1, by omega, by omega⟩]
        rw [hsl, Option.bind_some]
        have hxl : ((t.drop a.toNat).take ((a + m).toNat - a.toNat)).length = m.toNat := by simp; omega
        have hbc : bcat d ((t.drop a.toNat).take ((a + m).toNat - a.toNat)) = some (d ++ (t.drop a.toNat).take ((a + m).toNat - a.toNat)) := by unfold bcat; rw [if_pos (by rw [hxl]; omega)]
        rw [hbc, Option.bind_some]
        have hsz2 : c1.Size + m = c.Size + ((d ++ (t.drop a.toNat).take ((a + m).toNat - a.toNat)).length : Int) := by rw [List.length_append, hxl]; omega
        by_cases h0 : c1.Left - m = 0
        · have e0 : ((c1.Left - m) == (0 : Int)) = true := by simp [h0]
          rw [e0, cond_true]
          refine .inl ⟨_, rfl, ⟨⟨by show 0 ≤ a + m; omega, by show a + m ≤ _; omega⟩, rfl, ⟨by simp, by show 0 ≤ c1.Size + m ∧ c1.Size + m ≤ 20000; omega, h4.line, fun h => (by cases h), fun _ => ⟨h0, fun h => by cases h⟩⟩, hsz2⟩, by show t.length - (a + m).toNat < t.length - a.toNat; omega⟩
        · have e0 : ((c1.Left - m) == (0 : Int)) = false := by simp [h0]
          rw [e0, cond_false]
          refine .inl ⟨_, rfl, ⟨⟨by show 0 ≤ a + m; omega, by show a + m ≤ _; omega⟩, rfl, ⟨h4.stage, by show 0 ≤ c1.Size + m ∧ c1.Size + m ≤ 20000; omega, h4.line, fun _ => ⟨by show 1 ≤ c1.Left - m; omega, by show c1.Left - m ≤ 20000 - (c1.Size + m); omega, g3⟩, fun h => absurd hs1 h⟩, hsz2⟩, by show t.length - (a + m).toNat < t.length - a.toNat; omega⟩
      · have e1 : (c1.Stage != (1 : Int)) = true := by simp [hs1]
        rw [e1, cond_true]
        have hsl : slc t a (t.length : Int) = some ((t.drop a.toNat).take (t.length - a.toNat)) := by unfold slc; rw [chk_pos ⟨h1, by omega, by omega⟩]; rfl
        rw [hsl, Option.bind_some]
        have hxl : ((t.drop a.toNat).take (t.length - a.toNat)).length = t.length - a.toNat := by simp
        obtain ⟨x6, hx6, hq⟩ := line_tot (a1 := (t.drop a.toNat).take (t.length - a.toNat)) h4 hs1 hs4 (by rw [hxl]; omega) (by rw [hxl]; omega)
        rw [hx6, Option.bind_some]
        rcases hq with hq | ⟨q1, q2, q3, q4, q5⟩
        · have e2 : (x6.2.bad != (0 : Int)) = true := by simp [hq]
          rw [e2, cond_true]
          exact .inr ⟨_, rfl, .inl hq⟩
        · have e2 : (x6.2.bad != (0 : Int)) = false := by simp [q3]
          rw [e2, cond_false]
          rw [hxl] at q2
          have ew : IntKind.i64.wrap (a + x6.1) = a + x6.1 := wrap_i64 (by omega) (by omega)
          rw [ew]
          exact .inl ⟨_, rfl, ⟨⟨by show 0 ≤ a + x6.1; omega, by show a + x6.1 ≤ _; omega⟩, q3, q4, by rw [q5]; exact h5⟩, by show t.length - (a + x6.1).toNat < t.length - a.toNat; omega⟩
  · rw [decide_eq_false hlt, cond_false]
    refine .inr ⟨_, by unfold bcat; rw [if_pos (by simp; omega)]; rfl, .inr ⟨h4, ⟨h1, h2⟩, fun _ => by show a = _; omega, h5, rfl⟩⟩
end Go.Proofs.YtkfoahoplndelaaGreatDoor
namespace Go.Proofs.YtkfoahoplndelaaGreatDoor
open Go Go.Pm
set_option linter.unusedVariables false
set_option maxRecDepth 100000
theorem imin_cases (a b : Int) : (imin a b = a ∧ a ≤ b) ∨ (imin a b = b ∧ b ≤ a) := by
  unfold imin
  split <;> omega
def zeroM : S_Message := S_Message.mk zeroS [] []
def zeroC : S_Chunked := S_Chunked.mk 0 [] 0 0
theorem zeroC_ok : ChOk zeroC := ⟨⟨Int.le_refl _, by decide⟩, ⟨Int.le_refl _, by decide⟩, ⟨Nat.zero_le _, rfl⟩, fun h => (by cases h), fun _ => ⟨rfl, fun _ => rfl⟩⟩
structure RIn (a : Bool) (m : Bytes) (h : S_Message) (b : S_Body) (c : S_Chunked) : Prop where
  start : SSmall h.Start
  fields : FRow h.Fields
  body : bodyB a m h = (b, 0)
  len : h.Body.length ≤ 40000
  noch : b.Kind ≠ 2 → c = zeroC
  k1 : b.Kind = 1 → (h.Body.length : Int) ≤ b.Size
  k2 : b.Kind = 2 → ChOk c ∧ c.Stage ≠ 4 ∧ c.Size = (h.Body.length : Int)
  k3 : b.Kind = 3 → h.Body.length ≤ 20000
def mu (w : S_wire_reading) : Nat := 2 * w.Reader.Buf.length + (bif w.Reader.In then 1 else 0)
structure WI (a : Bool) (m : Bytes) (w : S_wire_reading) : Prop where
  asks : w.Reader.Asks = a
  meth : w.Reader.Method = m
  bad : w.Reader.Bad = 0
  buf : w.Reader.Buf.length ≤ 50000
  cnt : w.out.length + mu w ≤ 1000000
  ou : w.Reader.In = false → w.Reader.Head = zeroM ∧ w.Reader.Body = B 0 0 ∧ w.Reader.Chunk = zeroC
  inn : w.Reader.In = true → RIn a m w.Reader.Head w.Reader.Body w.Reader.Chunk
inductive XOk (a : Bool) (m : Bytes) : S_Reader → Prop
  | bad (e : Int) (he : e ≠ 0) : XOk a m (S_Reader.mk a m [] false zeroM (B 0 0) zeroC e)
  | out (b : Bytes) (hb : b.length ≤ 4000) : XOk a m (S_Reader.mk a m b false zeroM (B 0 0) zeroC 0)
  | inn (h : S_Message) (b : S_Body) (c : S_Chunked) (hr : RIn a m h b c) (h1 : b.Kind = 1 → (h.Body.length : Int) < b.Size) (h0 : b.Kind ≠ 0) : XOk a m (S_Reader.mk a m [] true h b c 0)
theorem RIn.kind {a : Bool} {m : Bytes} {h : S_Message} {b : S_Body} {c : S_Chunked} (hr : RIn a m h b c) : BodyOk a h b := by
  have := bodyB_ok (asks := a) (m := m) (h := h) (by rw [hr.body])
  rw [hr.body] at this
  exact this
theorem fail_eq (w : S_wire_reading) (e : Int) : wire_reading_fail w e = some (false, S_wire_reading.mk (S_Reader.mk w.Reader.Asks w.Reader.Method [] false zeroM (B 0 0) zeroC e) w.out) := rfl
theorem whole_eq {w : S_wire_reading} (h : w.out.length ≤ 1000000) : wire_reading_whole w = some (true, S_wire_reading.mk (S_Reader.mk w.Reader.Asks w.Reader.Method w.Reader.Buf false zeroM (B 0 0) zeroC w.Reader.Bad) (w.out ++ [w.Reader.Head])) := by
  unfold wire_reading_whole app
  rw [chk_pos (by unfold maxLen; simp; omega), Option.bind_some]
  rfl
def MoreQ (a : Bool) (m : Bytes) (w : S_wire_reading) (r : Bool × S_wire_reading) : Prop := (r.1 = true → WI a m r.2 ∧ mu r.2 < mu w) ∧ (r.1 = false → XOk a m r.2.Reader)
theorem more_tot {a : Bool} {m : Bytes} {w : S_wire_reading} (hw : WI a m w) (hin : w.Reader.In = true) : Tot (wire_reading_more w) (MoreQ a m w) := by
  obtain ⟨⟨A, M, Bf, I, H, Bd, C, E⟩, O⟩ := w
  obtain ⟨h1, h2, h3, h4, h5, _, h7⟩ := hw
  have hr := h7 hin
  simp only at h1 h2 h3 h4 h5 hin hr
  subst h1 h2 h3 hin
  have hO : O.length ≤ 1000000 := by unfold mu at h5; omega
  have hmu : mu (S_wire_reading.mk (S_Reader.mk A M Bf true H Bd C 0) O) = 2 * Bf.length + 1 := rfl
  rw [hmu] at h5
  have whole : ∀ (b : Bytes) (h : S_Message) (bd : S_Body) (c : S_Chunked), b.length ≤ Bf.length → WI A M (S_wire_reading.mk (S_Reader.mk A M b false zeroM (B 0 0) zeroC 0) (O ++ [h])) ∧ mu (S_wire_reading.mk (S_Reader.mk A M b false zeroM (B 0 0) zeroC 0) (O ++ [h])) < mu (S_wire_reading.mk (S_Reader.mk A M Bf true H Bd C 0) O) := fun b h bd c hb => by
    have e : mu (S_wire_reading.mk (S_Reader.mk A M b false zeroM (B 0 0) zeroC 0) (O ++ [h])) = 2 * b.length := rfl
    refine ⟨⟨rfl, rfl, rfl, by show b.length ≤ 50000; omega, ?_, fun _ => ⟨rfl, rfl, rfl⟩, fun h => by cases h⟩, by rw [e, hmu]; omega⟩
    rw [e]
    show (O ++ [h]).length + 2 * b.length ≤ 1000000
    simp
    omega
  unfold wire_reading_more
  rcases hr.kind.kind with rfl | ⟨z, hz0, hz1, rfl⟩ | rfl | rfl
  · -- none
    show Tot ((wire_reading_whole _).bind _) _
    rw [whole_eq hO, Option.bind_some]
    exact .now ⟨fun _ => whole Bf H (B 0 0) C (Nat.le_refl _), fun h => by cases h⟩
  · -- a size
    have hk1 : (H.Body.length : Int) ≤ z := hr.k1 rfl
    have hc : C = zeroC := hr.noch (by simp [B])
    show Tot ((slc Bf 0 (imin (Bf.length : Int) (IntKind.i64.wrap (z - (H.Body.length : Int))))).bind fun x2 => (cat H.Body x2).bind fun x3 => (slc Bf (imin (Bf.length : Int) (IntKind.i64.wrap (z - (H.Body.length : Int)))) (Bf.length : Int)).bind fun x4 => _) _
    rw [wrap_i64 (by omega) (by omega)]
    obtain ⟨k, hk, hk1', hk2⟩ : ∃ k : Nat, imin (Bf.length : Int) (z - (H.Body.length : Int)) = (k : Int) ∧ k ≤ Bf.length ∧ ((k : Int) = z - (H.Body.length : Int) ∨ (k = Bf.length ∧ (k : Int) ≤ z - (H.Body.length : Int))) := by
      rcases imin_cases (Bf.length : Int) (z - (H.Body.length : Int)) with ⟨h1, h2⟩ | ⟨h1, h2⟩
      · rw [h1]; exact ⟨Bf.length, rfl, Nat.le_refl _, .inr ⟨rfl, h2⟩⟩
      · rw [h1]; exact ⟨(z - (H.Body.length : Int)).toNat, by omega, by omega, .inl (by omega)⟩
    rw [hk]
    have e1 : slc Bf 0 (k : Int) = some (Bf.take k) := by unfold slc; rw [chk_pos (by omega)]; simp
    have e2 : slc Bf (k : Int) (Bf.length : Int) = some (Bf.drop k) := by
      unfold slc
      rw [chk_pos (by omega)]
      show some ((Bf.drop k).take (Bf.length - k)) = _
      rw [List.take_of_length_le (by simp)]
    have hl := hr.len
    have e3 : cat H.Body (Bf.take k) = some (H.Body ++ Bf.take k) := by unfold cat; rw [chk_pos (by unfold maxLen; simp; omega)]
    rw [e1, Option.bind_some, e3, Option.bind_some, e2, Option.bind_some]
    have hlen : (H.Body ++ Bf.take k).length = H.Body.length + k := by simp; omega
    show Tot (bif (((H.Body ++ Bf.take k).length : Int) == z) then _ else _) _
    by_cases hd : ((H.Body ++ Bf.take k).length : Int) = z
    · have e : (((H.Body ++ Bf.take k).length : Int) == z) = true := by simpa using hd
      rw [e, cond_true, whole_eq hO, Option.bind_some]
      refine .now ⟨fun _ => whole (Bf.drop k) _ (B 1 z) C (by simp), fun h => ?_⟩
      have h' : (bif (((H.Body ++ Bf.take k).length : Int) == z) then true else false) = false := h
      rw [e] at h'
      cases h'
    · have e : (((H.Body ++ Bf.take k).length : Int) == z) = false := by simpa using hd
      rw [e, cond_false]
      have hkb : k = Bf.length := by rcases hk2 with h | h <;> omega
      have hdrop : Bf.drop k = [] := by rw [hkb]; simp
      refine .now ⟨fun h => (by cases h), fun _ => ?_⟩
      show XOk A M (S_Reader.mk A M (Bf.drop k) true (S_Message.mk H.Start H.Fields (H.Body ++ Bf.take k)) (B 1 z) C 0)
      rw [hdrop]
      have hb : bodyB A M (S_Message.mk H.Start H.Fields (H.Body ++ Bf.take k)) = (B 1 z, 0) := hr.body
      exact .inn _ _ _ ⟨hr.start, hr.fields, hb, by show (H.Body ++ Bf.take k).length ≤ 40000; omega, fun _ => hc, fun _ => by show ((H.Body ++ Bf.take k).length : Int) ≤ z; omega, fun h => (by cases h), fun h => (by cases h)⟩ (fun _ => by show ((H.Body ++ Bf.take k).length : Int) < z; omega) (by simp [B])
  · -- chunks
    obtain ⟨g1, g2, g3⟩ := hr.k2 rfl
    obtain ⟨x6, hx6, hq⟩ := CFeed_tot (t := Bf) g1 (by omega)
    show Tot ((chunk_Feed C Bf).bind _) _
    rw [hx6, Option.bind_some]
    rcases hq with hq | hq
    · have e : (x6.2.2.2 != (0 : Int)) = true := by simpa using hq
      rw [e, cond_true, fail_eq, Option.bind_some]
      exact .now ⟨fun h => (by cases h), fun _ => .bad _ hq⟩
    · have e : (x6.2.2.2 != (0 : Int)) = false := by rw [hq.bad]; rfl
      rw [e, cond_false]
      have hl := hr.len
      have hsz := hq.size
      have hso := hq.ok.size
      have e3 : cat H.Body x6.2.1 = some (H.Body ++ x6.2.1) := by unfold cat; rw [chk_pos (by unfold maxLen; omega)]
      have ht := hq.took
      obtain ⟨k, hk⟩ : ∃ k : Nat, x6.2.2.1 = (k : Int) := ⟨x6.2.2.1.toNat, by omega⟩
      have e2 : slc Bf x6.2.2.1 (Bf.length : Int) = some (Bf.drop k) := by
        rw [hk]
        unfold slc
        rw [chk_pos (by omega)]
        show some ((Bf.drop k).take (Bf.length - k)) = _
        rw [List.take_of_length_le (by simp)]
      show Tot ((cat H.Body x6.2.1).bind _) _
      rw [e3, Option.bind_some]
      show Tot ((slc Bf x6.2.2.1 (Bf.length : Int)).bind _) _
      rw [e2, Option.bind_some]
      by_cases hs : x6.1.Stage = 4
      · have e4 : (x6.1.Stage == (4 : Int)) = true := by simpa using hs
        rw [e4, cond_true, whole_eq hO, Option.bind_some]
        exact .now ⟨fun _ => whole (Bf.drop k) _ (B 2 0) C (by simp), fun h => by cases h⟩
      · have e4 : (x6.1.Stage == (4 : Int)) = false := by simpa using hs
        rw [e4, cond_false]
        have hkl := hq.all hs
        have hdrop : Bf.drop k = [] := by rw [show k = Bf.length by omega]; simp
        refine .now ⟨fun h => (by cases h), fun _ => ?_⟩
        show XOk A M (S_Reader.mk A M (Bf.drop k) true (S_Message.mk H.Start H.Fields (H.Body ++ x6.2.1)) (B 2 0) x6.1 0)
        rw [hdrop]
        have hb : bodyB A M (S_Message.mk H.Start H.Fields (H.Body ++ x6.2.1)) = (B 2 0, 0) := hr.body
        have hlen : ((H.Body ++ x6.2.1).length : Int) = x6.1.Size := by rw [List.length_append, hsz, g3]; omega
        exact .inn _ _ _ ⟨hr.start, hr.fields, hb, by show (H.Body ++ x6.2.1).length ≤ 40000; omega, fun h => absurd rfl h, fun h => (by cases h), fun _ => ⟨hq.ok, hs, hlen.symm⟩, fun h => (by cases h)⟩ (fun h => by cases h) (by simp [B])
  · -- up to the end
    have hk3 := hr.k3 rfl
    have hc : C = zeroC := hr.noch (by simp [B])
    have e3 : cat H.Body Bf = some (H.Body ++ Bf) := by unfold cat; rw [chk_pos (by unfold maxLen; omega)]
    show Tot ((cat H.Body Bf).bind _) _
    rw [e3, Option.bind_some]
    by_cases hd : ((H.Body ++ Bf).length : Int) > 20000
    · rw [decide_eq_true hd, cond_true, fail_eq, Option.bind_some]
      exact .now ⟨fun h => (by cases h), fun _ => .bad _ (by simp)⟩
    · rw [decide_eq_false hd, cond_false]
      refine .now ⟨fun h => (by cases h), fun _ => ?_⟩
      have hb : bodyB A M (S_Message.mk H.Start H.Fields (H.Body ++ Bf)) = (B 3 0, 0) := hr.body
      exact .inn (S_Message.mk H.Start H.Fields (H.Body ++ Bf)) _ _ ⟨hr.start, hr.fields, hb, by show (H.Body ++ Bf).length ≤ 40000; omega, fun _ => hc, fun h => (by cases h), fun h => (by cases h), fun _ => by show (H.Body ++ Bf).length ≤ 20000; omega⟩ (fun h => by cases h) (by simp [B])
/-! ### Heads -/
def setBuf (w : S_wire_reading) (b : Bytes) : S_wire_reading := S_wire_reading.mk (S_Reader.mk w.Reader.Asks w.Reader.Method b w.Reader.In w.Reader.Head w.Reader.Body w.Reader.Chunk w.Reader.Bad) w.out
noncomputable def skipB (w : S_wire_reading) (b : Bytes) : Option (S_wire_reading ⊕ S_wire_reading) :=
  (gcall w.Reader.Asks (strings_HasPrefix b ([10] : Bytes))).bind fun x3 => (gcall (w.Reader.Asks && (!x3)) (strings_HasPrefix b ([13, 10] : Bytes))).bind fun x4 =>
  bif (bif w.Reader.Asks then (bif x3 then true else x4) else false) then ((strings_TrimPrefix b ([13] : Bytes)).bind fun x5 => (strings_TrimPrefix x5 ([10] : Bytes)).bind fun x6 => some (.inl (setBuf w x6))) else some (.inr (setBuf w b))
theorem hasPre_len {s p : Bytes} (h : hasPre s p = true) : p.length ≤ s.length := by
  unfold hasPre at h
  obtain ⟨t, rfl⟩ := List.isPrefixOf_iff_prefix.1 h
  simp
theorem skip_tot {w : S_wire_reading} (hb : w.Reader.Buf.length ≤ 50000) : Tot (loopO wire_reading_begin_b1 w) (fun j => ∃ b : Bytes, j = setBuf w b ∧ b.length ≤ w.Reader.Buf.length) := by
  refine loop_tot (fun x : S_wire_reading => x.Reader.Buf.length) (fun x => ∃ b : Bytes, x = setBuf w b ∧ b.length ≤ w.Reader.Buf.length) _ (fun x hx => ?_) w ⟨w.Reader.Buf, rfl, Nat.le_refl _⟩
  obtain ⟨b, rfl, hbl⟩ := hx
  unfold wire_reading_begin_b1
  suffices e : ∀ f : Option (S_wire_reading ⊕ S_wire_reading), f = skipB w b → ((∃ y, f = some (Sum.inl y) ∧ (∃ b : Bytes, y = setBuf w b ∧ b.length ≤ w.Reader.Buf.length) ∧ y.Reader.Buf.length < (setBuf w b).Reader.Buf.length) ∨ ∃ r, f = some (Sum.inr r) ∧ ∃ b : Bytes, r = setBuf w b ∧ b.length ≤ w.Reader.Buf.length) from e _ rfl
  intro f hf
  subst hf
  unfold skipB
  cases hA : w.Reader.Asks with
  | false =>
    right
    rw [gcall_ff rfl, Option.bind_some, gcall_ff (show (false && !(default : Bool)) = false from rfl), Option.bind_some]
    exact ⟨_, rfl, b, rfl, hbl⟩
  | true =>
    rw [gcall_tt rfl, HasPrefix_eq, Option.bind_some]
    have big : b.length ≤ maxLen := by unfold maxLen; omega
    cases h1 : hasPre b [10] with
    | true =>
      left
      rw [gcall_ff (show (true && !true) = false from rfl), Option.bind_some]
      have hl := hasPre_len h1
      have h13 : hasPre b [13] = false := by
        rcases b with _ | ⟨x, b⟩
        · rfl
        · unfold hasPre at h1 ⊢
          simp only [List.isPrefixOf, Bool.and_true, beq_iff_eq] at h1 ⊢
          subst h1
          rfl
      show ∃ y, ((strings_TrimPrefix b ([13] : Bytes)).bind fun x5 => (strings_TrimPrefix x5 ([10] : Bytes)).bind fun x6 => some (Sum.inl (setBuf w x6))) = some (Sum.inl y) ∧ (∃ b : Bytes, y = setBuf w b ∧ b.length ≤ w.Reader.Buf.length) ∧ y.Reader.Buf.length < (setBuf w b).Reader.Buf.length
      rw [TrimP_eq big, h13, cond_false, Option.bind_some, TrimP_eq big, h1, cond_true, Option.bind_some]
      exact ⟨_, rfl, ⟨_, rfl, by simp; omega⟩, by show (b.drop _).length < b.length; simp at hl ⊢; omega⟩
    | false =>
      rw [gcall_tt (show (true && !false) = true from rfl), HasPrefix_eq, Option.bind_some]
      cases h2 : hasPre b [13, 10] with
      | false => right; exact ⟨_, rfl, b, rfl, hbl⟩
      | true =>
        left
        have hl := hasPre_len h2
        have h13 : hasPre b [13] = true := by
          rcases b with _ | ⟨x, b⟩
          · cases h2
          · unfold hasPre at h2 ⊢
            simp only [List.isPrefixOf, Bool.and_eq_true, beq_iff_eq] at h2 ⊢
            exact ⟨h2.1, trivial⟩
        show ∃ y, ((strings_TrimPrefix b ([13] : Bytes)).bind fun x5 => (strings_TrimPrefix x5 ([10] : Bytes)).bind fun x6 => some (Sum.inl (setBuf w x6))) = some (Sum.inl y) ∧ (∃ b : Bytes, y = setBuf w b ∧ b.length ≤ w.Reader.Buf.length) ∧ y.Reader.Buf.length < (setBuf w b).Reader.Buf.length
        rw [TrimP_eq big, h13, cond_true, Option.bind_some, TrimP_eq (by simp; omega), Option.bind_some]
        refine ⟨_, rfl, ⟨_, rfl, ?_⟩, ?_⟩
        · cases hasPre (b.drop ([13] : Bytes).length) [10] <;> simp <;> omega
        · show (bif hasPre (b.drop ([13] : Bytes).length) [10] then _ else _ : Bytes).length < b.length
          cases hasPre (b.drop ([13] : Bytes).length) [10] <;> simp at hl ⊢ <;> omega
noncomputable def begT (rd : Bytes → Option (S_Start × Int)) (j1 : S_wire_reading) (e : Int) (x10 : Bytes × Bytes × Bool) : Option (Bool × S_wire_reading) :=
        (strings_TrimSuffix (x10.1) ([13] : Bytes)).bind fun x11 =>
        (rd x11).bind fun x12 =>
        bif ((x12.2) != (0 : Int)) then
          (wire_reading_fail (S_wire_reading.mk (S_Reader.mk ((j1.Reader).Asks) ((j1.Reader).Method) ((j1.Reader).Buf) ((j1.Reader).In) (S_Message.mk (x12.1) (((j1.Reader).Head).Fields) (((j1.Reader).Head).Body)) ((j1.Reader).Body) ((j1.Reader).Chunk) ((j1.Reader).Bad)) (j1.out)) (x12.2)).bind fun x13 =>
          some ((x13.1), (x13.2))
        else
          (strings_TrimSuffix (x10.2.1) ([10] : Bytes)).bind fun x14 =>
          (strings_TrimSuffix x14 ([13] : Bytes)).bind fun x15 =>
          (head_Parse x15).bind fun x16 =>
          bif ((x16.2) != (0 : Int)) then
            (wire_reading_fail (S_wire_reading.mk (S_Reader.mk ((j1.Reader).Asks) ((j1.Reader).Method) ((j1.Reader).Buf) ((j1.Reader).In) (S_Message.mk (x12.1) (x16.1) (((j1.Reader).Head).Body)) ((j1.Reader).Body) ((j1.Reader).Chunk) ((j1.Reader).Bad)) (j1.out)) (x16.2)).bind fun x17 =>
            some ((x17.1), (x17.2))
          else
            (wire_body (S_Reader.mk ((j1.Reader).Asks) ((j1.Reader).Method) ((j1.Reader).Buf) ((j1.Reader).In) (S_Message.mk (x12.1) (x16.1) (((j1.Reader).Head).Body)) ((j1.Reader).Body) ((j1.Reader).Chunk) ((j1.Reader).Bad))).bind fun x18 =>
            bif ((x18.2) != (0 : Int)) then
              (wire_reading_fail (S_wire_reading.mk (S_Reader.mk ((j1.Reader).Asks) ((j1.Reader).Method) ((j1.Reader).Buf) ((j1.Reader).In) (S_Message.mk (x12.1) (x16.1) (((j1.Reader).Head).Body)) (x18.1) ((j1.Reader).Chunk) ((j1.Reader).Bad)) (j1.out)) (x18.2)).bind fun x19 =>
              some ((x19.1), (x19.2))
            else
              (slc ((j1.Reader).Buf) e (((j1.Reader).Buf).length : Int)).bind fun x20 =>
              bif (bif (((x12.1).Code) != (0 : Int)) then (decide (((x12.1).Code) < (200 : Int))) else false) then
                some (true, (S_wire_reading.mk (S_Reader.mk ((j1.Reader).Asks) ((j1.Reader).Method) x20 ((j1.Reader).In) (S_Message.mk (S_Start.mk ([] : Bytes) ([] : Bytes) (0 : Int) ([] : Bytes) (0 : Int)) ([] : List S_Field) ([] : Bytes)) (S_Body.mk (0 : Int) (0 : Int)) ((j1.Reader).Chunk) ((j1.Reader).Bad)) (j1.out)))
              else
                some (true, (S_wire_reading.mk (S_Reader.mk ((j1.Reader).Asks) ((j1.Reader).Method) x20 true (S_Message.mk (x12.1) (x16.1) (((j1.Reader).Head).Body)) (x18.1) ((j1.Reader).Chunk) ((j1.Reader).Bad)) (j1.out)))
theorem begin_eq (w : S_wire_reading) : wire_reading_begin w = (loopO (wire_reading_begin_b1) w).bind fun j1 => (head_End ((j1.Reader).Buf)).bind fun x7 =>
  bif ((x7.2) == (3 : Int)) then some (false, j1)
  else bif ((x7.2) != (0 : Int)) then (wire_reading_fail j1 (x7.2)).bind fun x8 => some ((x8.1), (x8.2))
  else (slc ((j1.Reader).Buf) 0 (x7.1)).bind fun x9 => (strings_Cut x9 ([10] : Bytes)).bind fun x10 =>
    bif (j1.Reader).Asks then begT start_Parse j1 (x7.1) x10 else begT start_Status j1 (x7.1) x10 := rfl
def RdOk (a : Bool) (n : Nat) (r : S_Start × Int) : Prop := r.2 ≠ 0 ∨ (r.2 = 0 ∧ startB r.1 = true ∧ (r.1.Code == (0 : Int)) = a ∧ SSmall r.1)
theorem read_ok (a : Bool) {l : Bytes} (hl : l.length ≤ 1000000) : Tot (bif a then start_Parse l else start_Status l) (RdOk a l.length) := by
  have hb : ∀ n : Nat, n ≤ l.length → n ≤ maxLen := fun n h => by unfold maxLen; omega
  cases a with
  | true =>
    rw [cond_true, Parse_eq hl]
    refine .now ?_
    rcases parse_cases l with ⟨s, h, h1, h2, h3, h4, h5⟩ | h
    · rw [h]; exact .inr ⟨rfl, h1, by rw [h2]; rfl, ⟨hb _ h3, hb _ h4, by rw [h5]; unfold maxLen; simp⟩⟩
    · rw [h]; exact .inl (by simp)
  | false =>
    rw [cond_false, Status_eq hl]
    refine .now ?_
    rcases status_cases l with ⟨s, h, h1, h2, h3, h4, h5⟩ | h
    · rw [h]; exact .inr ⟨rfl, h1, by simpa using h2, ⟨by rw [h3]; unfold maxLen; simp, by rw [h4]; unfold maxLen; simp, hb _ h5⟩⟩
    · rw [h]; exact .inl (by simp)
theorem begT_tot {a : Bool} {m : Bytes} {rd : Bytes → Option (S_Start × Int)} {w j : S_wire_reading} {e : Int} {x : Bytes × Bytes × Bool} (hrd : ∀ l : Bytes, l.length ≤ 1000000 → Tot (rd l) (RdOk a l.length)) (hw : WI a m w) (hin : w.Reader.In = false)
    (hj : ∃ b : Bytes, j = setBuf w b ∧ b.length ≤ w.Reader.Buf.length) (he : 1 ≤ e ∧ e ≤ (j.Reader.Buf.length : Int)) (hx : x.1.length ≤ 50000 ∧ x.2.1.length ≤ 50000) : Tot (begT rd j e x) (MoreQ a m w) := by
  obtain ⟨b, rfl, hbl⟩ := hj
  obtain ⟨⟨A, M, Bf, I, H, Bd, C, E⟩, O⟩ := w
  obtain ⟨h1, h2, h3, h4, h5, h6, _⟩ := hw
  have ho := h6 hin
  simp only at h1 h2 h3 h4 h5 hin ho hbl
  obtain ⟨o1, o2, o3⟩ := ho
  subst h1 h2 h3 hin o1 o2 o3
  have hmu : mu (S_wire_reading.mk (S_Reader.mk A M Bf false zeroM (B 0 0) zeroC 0) O) = 2 * Bf.length := rfl
  rw [hmu] at h5
  have heb : e ≤ (b.length : Int) := he.2
  have big : ∀ n : Nat, n ≤ 50000 → n ≤ maxLen := fun n h => by unfold maxLen; omega
  unfold begT
  obtain ⟨x11, hx11, hl11⟩ := TrimS_tot 13 (big _ hx.1)
  rw [hx11, Option.bind_some]
  obtain ⟨x12, hx12, hq⟩ := hrd x11 (by omega)
  rw [hx12, Option.bind_some]
  rcases hq with hq | ⟨q0, q1, q2, q3⟩
  · have e1 : (x12.2 != (0 : Int)) = true := by simpa using hq
    rw [e1, cond_true, fail_eq, Option.bind_some]
    exact .now ⟨fun h => (by cases h), fun _ => .bad _ hq⟩
  have e1 : (x12.2 != (0 : Int)) = false := by rw [q0]; rfl
  rw [e1, cond_false]
  obtain ⟨x14, hx14, hl14⟩ := TrimS_tot 10 (big _ hx.2)
  rw [hx14, Option.bind_some]
  obtain ⟨x15, hx15, hl15⟩ := TrimS_tot 13 (s := x14) (big _ (by omega))
  rw [hx15, Option.bind_some]
  obtain ⟨x16, hx16, hf, hfl⟩ := HParse_tot (s := x15) (by omega)
  rw [hx16, Option.bind_some]
  by_cases hb2 : x16.2 = 0
  · have e2 : (x16.2 != (0 : Int)) = false := by rw [hb2]; rfl
    rw [e2, cond_false]
    have hbody := wbody_eq (r := S_Reader.mk A M b false (S_Message.mk x12.1 x16.1 []) (B 0 0) zeroC 0) q3 hf
    show Tot ((wire_body (S_Reader.mk A M b false (S_Message.mk x12.1 x16.1 []) (B 0 0) zeroC 0)).bind _) _
    rw [hbody, Option.bind_some]
    generalize hbb : bodyB A M (S_Message.mk x12.1 x16.1 []) = bb
    by_cases hb3 : bb.2 = 0
    · have e3 : (bb.2 != (0 : Int)) = false := by rw [hb3]; rfl
      show Tot (bif (bb.2 != (0 : Int)) then _ else _) _
      rw [e3, cond_false]
      obtain ⟨k, hk⟩ : ∃ k : Nat, e = (k : Int) := ⟨e.toNat, by omega⟩
      have es : slc b e (b.length : Int) = some (b.drop k) := by
        rw [hk]
        unfold slc
        rw [chk_pos (by omega)]
        show some ((b.drop k).take (b.length - k)) = _
        rw [List.take_of_length_le (by simp)]
      show Tot ((slc b e (b.length : Int)).bind _) _
      rw [es, Option.bind_some]
      have hdl : (b.drop k).length + 1 ≤ Bf.length := by simp; omega
      refine Tot.br (fun _ => .now ⟨fun _ => ?_, fun h => (by cases h)⟩) (fun _ => .now ⟨fun _ => ?_, fun h => (by cases h)⟩)
      · have hm2 : mu (S_wire_reading.mk (S_Reader.mk A M (b.drop k) false zeroM (B 0 0) zeroC 0) O) = 2 * (b.drop k).length := rfl
        exact ⟨⟨rfl, rfl, rfl, by show (b.drop k).length ≤ 50000; omega, by show O.length + mu (S_wire_reading.mk (S_Reader.mk A M (b.drop k) false zeroM (B 0 0) zeroC 0) O) ≤ _; rw [hm2]; omega, fun _ => ⟨rfl, rfl, rfl⟩, fun h => by cases h⟩, by show mu (S_wire_reading.mk (S_Reader.mk A M (b.drop k) false zeroM (B 0 0) zeroC 0) O) < _; rw [hm2, hmu]; omega⟩
      · have hm2 : mu (S_wire_reading.mk (S_Reader.mk A M (b.drop k) true (S_Message.mk x12.1 x16.1 []) bb.1 zeroC 0) O) = 2 * (b.drop k).length + 1 := rfl
        refine ⟨⟨rfl, rfl, rfl, by show (b.drop k).length ≤ 50000; omega, by show O.length + mu (S_wire_reading.mk (S_Reader.mk A M (b.drop k) true (S_Message.mk x12.1 x16.1 []) bb.1 zeroC 0) O) ≤ _; rw [hm2]; omega, fun h => (by cases h), fun _ => ?_⟩, by show mu (S_wire_reading.mk (S_Reader.mk A M (b.drop k) true (S_Message.mk x12.1 x16.1 []) bb.1 zeroC 0) O) < _; rw [hm2, hmu]; omega⟩
        have hbe : bodyB A M (S_Message.mk x12.1 x16.1 []) = (bb.1, 0) := by rw [hbb, ← hb3]
        have hko := bodyB_ok (asks := A) (m := M) (h := S_Message.mk x12.1 x16.1 []) (by rw [hbb]; exact hb3)
        rw [hbb] at hko
        show RIn A M (S_Message.mk x12.1 x16.1 []) bb.1 zeroC
        refine ⟨q3, hf, hbe, Nat.zero_le _, fun _ => rfl, fun hk1 => ?_, fun _ => ⟨zeroC_ok, fun h => (by cases h), rfl⟩, fun _ => Nat.zero_le _⟩
        rcases hko.kind with h | ⟨z, hz0, _, h⟩ | h | h
        · rw [h] at hk1; cases hk1
        · show (([] : Bytes).length : Int) ≤ bb.1.Size
          rw [h]; simpa [B] using hz0
        · rw [h] at hk1; cases hk1
        · rw [h] at hk1; cases hk1
    · have e3 : (bb.2 != (0 : Int)) = true := by simpa using hb3
      show Tot (bif (bb.2 != (0 : Int)) then _ else _) _
      rw [e3, cond_true, fail_eq, Option.bind_some]
      exact .now ⟨fun h => (by cases h), fun _ => .bad _ hb3⟩
  · have e2 : (x16.2 != (0 : Int)) = true := by simpa using hb2
    rw [e2, cond_true, fail_eq, Option.bind_some]
    exact .now ⟨fun h => (by cases h), fun _ => .bad _ hb2⟩
theorem begin_tot {a : Bool} {m : Bytes} {w : S_wire_reading} (hw : WI a m w) (hin : w.Reader.In = false) : Tot (wire_reading_begin w) (MoreQ a m w) := by
  rw [begin_eq]
  refine Tot.bind (skip_tot hw.buf) (fun j hj => ?_)
  obtain ⟨b, hjb, hbl⟩ := hj
  have hjbuf : j.Reader.Buf = b := by rw [hjb]; rfl
  have hbuf := hw.buf
  obtain ⟨x7, hx7, hq⟩ := End_tot (s := j.Reader.Buf) (by rw [hjbuf]; omega)
  rw [hx7, Option.bind_some]
  have fin : ∀ e : Int, e ≠ 0 → MoreQ a m w (false, S_wire_reading.mk (S_Reader.mk j.Reader.Asks j.Reader.Method [] false zeroM (B 0 0) zeroC e) j.out) := fun e he => by
    refine ⟨fun h => (by cases h), fun _ => ?_⟩
    have ea : j.Reader.Asks = a := by rw [hjb]; exact hw.asks
    have em : j.Reader.Method = m := by rw [hjb]; exact hw.meth
    show XOk a m (S_Reader.mk j.Reader.Asks j.Reader.Method [] false zeroM (B 0 0) zeroC e)
    rw [ea, em]
    exact .bad e he
  rcases hq with ⟨h0, h1, h2⟩ | ⟨h3, h4⟩ | h5
  · have e3 : (x7.2 == (3 : Int)) = false := by rw [h0]; rfl
    have e0 : (x7.2 != (0 : Int)) = false := by rw [h0]; rfl
    rw [e3, cond_false, e0, cond_false]
    have es : slc j.Reader.Buf 0 x7.1 = some (j.Reader.Buf.take x7.1.toNat) := by unfold slc; rw [chk_pos (by omega)]; simp
    have hcl := cutC_le 10 (j.Reader.Buf.take x7.1.toNat)
    have htl : (j.Reader.Buf.take x7.1.toNat).length ≤ 50000 := by rw [hjbuf]; simp; omega
    rw [es, Option.bind_some, Cut_one 10 (by unfold maxLen; omega), Option.bind_some]
    have ha : j.Reader.Asks = a := by rw [hjb]; exact hw.asks
    rw [ha]
    have hrd := fun (l : Bytes) (hl : l.length ≤ 1000000) => read_ok a hl
    cases a with
    | true => exact begT_tot (fun l hl => hrd l hl) hw hin ⟨b, hjb, hbl⟩ ⟨h1, h2⟩ ⟨by omega, by omega⟩
    | false => exact begT_tot (fun l hl => hrd l hl) hw hin ⟨b, hjb, hbl⟩ ⟨h1, h2⟩ ⟨by omega, by omega⟩
  · rw [h3]
    refine .now ⟨fun h => (by cases h), fun _ => ?_⟩
    rw [hjbuf] at h4
    subst hjb
    obtain ⟨⟨A, M, Bf, I, H, Bd, C, E⟩, O⟩ := w
    obtain ⟨h1, h2, h3, _, _, h6, _⟩ := hw
    have ho := h6 hin
    simp only at h1 h2 h3 hin ho
    obtain ⟨o1, o2, o3⟩ := ho
    subst h1 h2 h3 hin o1 o2 o3
    exact .out b h4
  · rw [h5]
    show Tot ((wire_reading_fail j 2).bind _) _
    rw [fail_eq, Option.bind_some]
    exact .now (fin 2 (by simp))
end Go.Proofs.YtkfoahoplndelaaGreatDoor
namespace Go.Proofs.YtkfoahoplndelaaGreatDoor
open Go Go.Pm
set_option linter.unusedVariables false
set_option maxRecDepth 100000
theorem empty_tot (h : S_Message) : Tot (wire_empty h) (fun b => b = true ↔ h = zeroM) := by
  unfold wire_empty
  refine .now ?_
  obtain ⟨⟨a, b, c, d, e⟩, f, g⟩ := h
  unfold zeroM zeroS
  cases f <;> simp [and_assoc] <;> intros <;> omega
theorem bare_tot (r : S_Reader) : Tot (wire_bare r) (fun b => b = true ↔ (r.Buf = [] ∧ r.In = false ∧ r.Head = zeroM ∧ r.Body = B 0 0 ∧ r.Chunk = zeroC)) := by
  obtain ⟨A, M, Bf, I, H, ⟨k, z⟩, ⟨c1, c2, c3, c4⟩, E⟩ := r
  obtain ⟨x, hx, hi⟩ := empty_tot H
  unfold wire_bare
  rw [show gcall _ (wire_empty (S_Reader.mk A M Bf I H (S_Body.mk k z) (S_Chunked.mk c1 c2 c3 c4) E).Head) = _ from gcall_val (fun _ => hx), Option.bind_some]
  refine .now ?_
  unfold B zeroC
  dsimp only
  cases hb : (Bf == ([] : Bytes)) with
  | false =>
    have : Bf ≠ [] := by simpa using hb
    simp [this]
  | true =>
    have hb : Bf = [] := by simpa using hb
    cases I with
    | true => simp
    | false =>
      cases x with
      | false =>
        have : H ≠ zeroM := fun h => by have := hi.2 h; cases this
        simp [this]
      | true => simp [hb, hi.1 rfl, and_assoc]
theorem bodyEq (a b : S_Body) : ((a.Kind == b.Kind) && ((a.Size == b.Size) && true)) = true ↔ a = b := by
  obtain ⟨a1, a2⟩ := a
  obtain ⟨b1, b2⟩ := b
  simp
theorem zeroCh (c : S_Chunked) : ((c.Stage == (0 : Int)) && ((c.Line == ([] : Bytes)) && ((c.Left == (0 : Int)) && ((c.Size == (0 : Int)) && true)))) = true ↔ c = zeroC := by
  obtain ⟨c1, c2, c3, c4⟩ := c
  unfold zeroC
  simp
theorem right_tot {r : S_Reader} (hs : SSmall r.Head.Start) (hf : FRow r.Head.Fields) (hl : r.Head.Body.length ≤ 40000) : Tot (wire_Right r) (fun b => b = true ↔ XOk r.Asks r.Method r) := by
  obtain ⟨A, M, Bf, I, H, Bd, C, E⟩ := r
  simp only at hs hf hl
  unfold wire_Right
  dsimp only
  by_cases hE : E = 0
  · subst hE
    rw [show ((0 : Int) != 0) = false from rfl, cond_false]
    cases I with
    | false =>
      rw [show (!false) = true from rfl, cond_true]
      obtain ⟨x, hx, hi⟩ := bare_tot (S_Reader.mk A M [] false H Bd C 0)
      rw [hx, Option.bind_some]
      refine .now ⟨fun h => ?_, fun h => ?_⟩
      · cases x with
        | false => cases h
        | true =>
          have hb : decide ((Bf.length : Int) ≤ 4000) = true := h
          have hb := of_decide_eq_true hb
          obtain ⟨_, _, h1, h2, h3⟩ := hi.1 rfl
          simp only at h1 h2 h3
          subst h1 h2 h3
          exact .out _ (by omega)
      · have : H = zeroM ∧ Bd = B 0 0 ∧ C = zeroC ∧ Bf.length ≤ 4000 := by
          cases h with
          | bad e he => exact absurd rfl he
          | out _ hb => exact ⟨rfl, rfl, rfl, hb⟩
        obtain ⟨rfl, rfl, rfl, hb⟩ := this
        rw [hi.2 ⟨rfl, rfl, rfl, rfl, rfl⟩, cond_true]
        exact decide_eq_true (by omega)
    | true =>
      rw [show (!true) = false from rfl, cond_false, wbody_eq (r := S_Reader.mk A M Bf true H Bd C 0) hs hf, Option.bind_some]
      show Tot (bif (bif (bif (bif (((bodyB A M H)).2 != (0 : Int)) then true else (!((((bodyB A M H).1.Kind) == (Bd.Kind)) && ((((bodyB A M H).1.Size) == (Bd.Size)) && true)))) then true else (!(Bf == ([] : Bytes)))) then true else (bif (((bodyB A M H).1.Kind) != (2 : Int)) then (!(((C.Stage) == (0 : Int)) && (((C.Line) == ([] : Bytes)) && (((C.Left) == (0 : Int)) && (((C.Size) == (0 : Int)) && true))))) else false)) then _ else _) _
      have key : XOk A M (S_Reader.mk A M Bf true H Bd C 0) → bodyB A M H = (Bd, 0) ∧ Bf = [] ∧ RIn A M H Bd C ∧ (Bd.Kind = 1 → (H.Body.length : Int) < Bd.Size) ∧ Bd.Kind ≠ 0 := fun h => by
        cases h with
        | inn _ _ _ hr h1 h0 => exact ⟨hr.body, rfl, hr, h1, h0⟩
      generalize hbb : bodyB A M H = bb at key ⊢
      by_cases h2 : bb.2 = 0
      · rw [show (bb.2 != (0 : Int)) = false by rw [h2]; rfl, cond_false]
        cases hb : ((bb.1.Kind == Bd.Kind) && ((bb.1.Size == Bd.Size) && true)) with
        | false =>
          refine .now ⟨fun h => (by cases h), fun h => ?_⟩
          have := (key h).1
          have : (bb.1.Kind == Bd.Kind) && ((bb.1.Size == Bd.Size) && true) := (bodyEq _ _).2 (by rw [this])
          rw [this] at hb
          cases hb
        | true =>
          have hb := (bodyEq _ _).1 hb
          subst hb
          rw [show (!true) = false from rfl, cond_false]
          cases hf0 : (Bf == ([] : Bytes)) with
          | false =>
            refine .now ⟨fun h => (by cases h), fun h => ?_⟩
            have := (key h).2.1
            rw [this] at hf0
            cases hf0
          | true =>
            have hf0 : Bf = [] := by simpa using hf0
            subst hf0
            rw [show (!true) = false from rfl, cond_false]
            have hbody : bodyB A M H = (bb.1, 0) := by rw [hbb, ← h2]
            have hko := (bodyB_ok (asks := A) (m := M) (h := H) (by rw [hbody])).kind
            rw [hbody] at hko
            have hko : KindOk bb.1 := hko
            generalize bb.1 = Bd at *
            cases hc : (bif (Bd.Kind != (2 : Int)) then (!(((C.Stage) == (0 : Int)) && (((C.Line) == ([] : Bytes)) && (((C.Left) == (0 : Int)) && (((C.Size) == (0 : Int)) && true))))) else false) with
            | true =>
              refine .now ⟨fun h => (by cases h), fun h => ?_⟩
              have hr := (key h).2.2.1
              by_cases hk : Bd.Kind = 2
              · rw [hk] at hc; cases hc
              · have := hr.noch hk
                subst this
                rw [(zeroCh zeroC).2 rfl] at hc
                have e : (Bd.Kind != (2 : Int)) = true := by simpa using hk
                rw [e] at hc
                cases hc
            | false =>
              have hnc : Bd.Kind ≠ 2 → C = zeroC := fun hk => by
                have e : (Bd.Kind != (2 : Int)) = true := by simpa using hk
                rw [e, cond_true] at hc
                refine (zeroCh C).1 ?_
                simpa using hc
              rw [cond_false]
              rcases hko with rfl | ⟨z, hz0, hz1, rfl⟩ | rfl | rfl
              · refine .now ⟨fun h => (by cases h), fun h => absurd rfl (key h).2.2.2.2⟩
              · refine .now ⟨fun h => ?_, fun h => ?_⟩
                · have h := of_decide_eq_true h
                  have h : (H.Body.length : Int) < z := h
                  exact .inn _ _ _ ⟨hs, hf, hbody, hl, hnc, fun _ => by show (H.Body.length : Int) ≤ z; omega, fun h => (by cases h), fun h => (by cases h)⟩ (fun _ => h) (by simp [B])
                · exact decide_eq_true ((key h).2.2.2.1 rfl)
              · obtain ⟨x, hx, hi⟩ := chRight (c := C)
                show Tot ((chunk_Right C).bind _) _
                rw [hx, Option.bind_some]
                refine .now ⟨fun h => ?_, fun h => ?_⟩
                · cases x with
                  | false => cases h
                  | true =>
                    cases h4 : (C.Stage != (4 : Int)) with
                    | false => rw [cond_true, h4] at h; cases h
                    | true =>
                      rw [cond_true, h4, cond_true] at h
                      exact .inn _ _ _ ⟨hs, hf, hbody, hl, hnc, fun h => (by cases h), fun _ => ⟨hi.1 rfl, by simpa using h4, by simpa using h⟩, fun h => (by cases h)⟩ (fun h => by cases h) (by simp [B])
                · obtain ⟨g1, g2, g3⟩ := (key h).2.2.1.k2 rfl
                  rw [hi.2 g1, cond_true, show (C.Stage != (4 : Int)) = true by simpa using g2, cond_true, g3]
                  simp
              · refine .now ⟨fun h => ?_, fun h => ?_⟩
                · have h := of_decide_eq_true h
                  exact .inn _ _ _ ⟨hs, hf, hbody, hl, hnc, fun h => (by cases h), fun h => (by cases h), fun _ => by omega⟩ (fun h => by cases h) (by simp [B])
                · have := (key h).2.2.1.k3 rfl
                  exact decide_eq_true (by omega)
      · have e : (bb.2 != (0 : Int)) = true := by simpa using h2
        rw [e, cond_true, cond_true, cond_true, cond_true]
        refine .now ⟨fun h => (by cases h), fun h => ?_⟩
        have := (key h).1
        rw [this] at h2
        exact absurd rfl h2
  · have e : (E != (0 : Int)) = true := by simpa using hE
    rw [e, cond_true]
    obtain ⟨x, hx, hi⟩ := bare_tot (S_Reader.mk A M Bf I H Bd C E)
    rw [hx, Option.bind_some]
    refine .now ⟨fun h => ?_, fun h => hi.2 ?_⟩
    · obtain ⟨h1, h2, h3, h4, h5⟩ := hi.1 h
      simp only at h1 h2 h3 h4 h5
      subst h1 h2 h3 h4 h5
      exact .bad _ hE
    · cases h with
      | bad => exact ⟨rfl, rfl, rfl, rfl, rfl⟩
      | out => exact absurd rfl hE
      | inn => exact absurd rfl hE
theorem zeroM_small : SSmall zeroM.Start ∧ FRow zeroM.Fields := ⟨⟨Nat.zero_le _, Nat.zero_le _, Nat.zero_le _⟩, ⟨by simp [zeroM], fun f hf => by cases hf⟩⟩
theorem XOk.head {a : Bool} {m : Bytes} {r : S_Reader} (h : XOk a m r) : SSmall r.Head.Start ∧ FRow r.Head.Fields ∧ r.Head.Body.length ≤ 40000 := by
  cases h with
  | bad => exact ⟨zeroM_small.1, zeroM_small.2, Nat.zero_le _⟩
  | out => exact ⟨zeroM_small.1, zeroM_small.2, Nat.zero_le _⟩
  | inn _ _ _ hr => exact ⟨hr.start, hr.fields, hr.len⟩
theorem XOk.asks {a : Bool} {m : Bytes} {r : S_Reader} (h : XOk a m r) : r.Asks = a ∧ r.Method = m := by
  cases h <;> exact ⟨rfl, rfl⟩
theorem XOk.right {a : Bool} {m : Bytes} {r : S_Reader} (h : XOk a m r) : wire_Right r = some true := by
  obtain ⟨h1, h2, h3⟩ := h.head
  obtain ⟨x, hx, hi⟩ := right_tot h1 h2 h3
  rw [hx, hi.2 (by rw [h.asks.1, h.asks.2]; exact h)]
theorem XOk.buf {a : Bool} {m : Bytes} {r : S_Reader} (h : XOk a m r) : r.Buf.length ≤ 4000 := by
  cases h with
  | bad => exact Nat.zero_le _
  | out _ hb => exact hb
  | inn => exact Nat.zero_le _
theorem XOk.body {a : Bool} {m : Bytes} {r : S_Reader} (h : XOk a m r) : r.Head.Body.length ≤ 20000 := by
  cases h with
  | bad => exact Nat.zero_le _
  | out => exact Nat.zero_le _
  | inn h b c hr h1 h0 =>
    show h.Body.length ≤ 20000
    rcases hr.kind.kind with rfl | ⟨z, hz0, hz1, rfl⟩ | rfl | rfl
    · exact absurd rfl h0
    · have : (h.Body.length : Int) < z := h1 rfl
      omega
    · obtain ⟨g1, _, g3⟩ := hr.k2 rfl
      have := g1.size
      omega
    · exact hr.k3 rfl
theorem feed_bad {r : S_Reader} {s : Bytes} (hr : XOk r.Asks r.Method r) (h0 : r.Bad ≠ 0) : wire_Feed r s = some (r, [], 0) := by
  unfold wire_Feed
  rw [hr.right, Option.bind_some, show (!true) = false from rfl, cond_false, show (r.Bad != (0 : Int)) = true by simpa using h0, cond_true]
/-! ### It runs -/
def aliveL : Bytes := [71, 69, 84, 32, 47, 32, 72, 84, 84, 80, 47, 49, 46, 49]
def aliveS : S_Start := S_Start.mk [71, 69, 84] [47] 0 [] 1
def rd0 (b : Bytes) : S_Reader := S_Reader.mk true [] b false zeroM (B 0 0) zeroC 0
theorem alive_line : start_Parse aliveL = some (aliveS, 0) := by
  have hp : printB aliveS = aliveL := by kernel_rfl
  rw [Parse_eq (by decide), ← hp, (print0 (s := aliveS) (by kernel_rfl) rfl).1]
theorem skip_none {w : S_wire_reading} (h : wire_reading_begin_b1 w = some (.inr w)) : loopO wire_reading_begin_b1 w = some w := by rw [loopO_eq, h]
theorem alive_begin : wire_reading_begin (S_wire_reading.mk (rd0 (aliveL ++ [13, 10, 13, 10])) []) = some (true, S_wire_reading.mk (S_Reader.mk true [] [] true (S_Message.mk aliveS [] []) (B 0 0) zeroC 0) []) := by
  rw [begin_eq, skip_none (by kernel_rfl), Option.bind_some]
  have hE : head_End (S_wire_reading.mk (rd0 (aliveL ++ [13, 10, 13, 10])) []).Reader.Buf = some (18, 0) := by kernel_rfl
  rw [hE, Option.bind_some]
  have hS : slc (S_wire_reading.mk (rd0 (aliveL ++ [13, 10, 13, 10])) []).Reader.Buf 0 18 = some (aliveL ++ [13, 10, 13, 10]) := by kernel_rfl
  show ((slc (S_wire_reading.mk (rd0 (aliveL ++ [13, 10, 13, 10])) []).Reader.Buf 0 18).bind fun x9 => (strings_Cut x9 ([10] : Bytes)).bind fun x10 => begT start_Parse _ _ x10) = _
  rw [hS, Option.bind_some, Cut_one 10 (by decide), Option.bind_some]
  have hC : cutC 10 (aliveL ++ [13, 10, 13, 10]) = (aliveL ++ [13], [13, 10], true) := by kernel_rfl
  rw [hC]
  unfold begT
  have h1 : strings_TrimSuffix (aliveL ++ [13], ([13, 10] : Bytes), true).1 ([13] : Bytes) = some aliveL := by kernel_rfl
  rw [h1, Option.bind_some, alive_line, Option.bind_some]
  rw [show ((aliveS, (0 : Int)).2 != (0 : Int)) = false from rfl, cond_false]
  have h2 : strings_TrimSuffix (aliveL ++ [13], ([13, 10] : Bytes), true).2.1 ([10] : Bytes) = some [13] := by kernel_rfl
  have h3 : strings_TrimSuffix ([13] : Bytes) ([13] : Bytes) = some [] := by kernel_rfl
  have h4 : head_Parse ([] : Bytes) = some ([], 0) := by kernel_rfl
  rw [h2, Option.bind_some, h3, Option.bind_some, h4, Option.bind_some]
  rw [show ((([] : List S_Field), (0 : Int)).2 != (0 : Int)) = false from rfl, cond_false]
  have h5 : wire_body (S_Reader.mk true [] (aliveL ++ [13, 10, 13, 10]) false (S_Message.mk aliveS [] []) (B 0 0) zeroC 0) = some (B 0 0, 0) := by
    rw [wbody_eq (r := S_Reader.mk true [] (aliveL ++ [13, 10, 13, 10]) false (S_Message.mk aliveS [] []) (B 0 0) zeroC 0) ⟨by decide, by decide, by decide⟩ zeroM_small.2]
    kernel_rfl
  dsimp only [rd0, zeroM]
  rw [h5, Option.bind_some]
  rfl
theorem alive_eq : intarsialaw10_alive = some true := by
  have h0 : XOk true [] (rd0 []) := .out [] (by decide)
  have hF : wire_Feed (rd0 []) (aliveL ++ [13, 10, 13, 10]) = some (rd0 [], [S_Message.mk aliveS [] []], 0) := by
    unfold wire_Feed
    rw [h0.right, Option.bind_some, show (!true) = false from rfl, cond_false]
    show ((cat ([] : Bytes) (aliveL ++ [13, 10, 13, 10])).bind fun x2 => loopO (wire_Feed_b1) (S_wire_reading.mk (rd0 x2) [])) = _
    have hc : cat ([] : Bytes) (aliveL ++ [13, 10, 13, 10]) = some (aliveL ++ [13, 10, 13, 10]) := by kernel_rfl
    rw [hc, Option.bind_some, loopO_eq]
    unfold wire_Feed_b1
    rw [show (S_wire_reading.mk (rd0 (aliveL ++ [13, 10, 13, 10])) []).Reader.In = false from rfl, cond_false, alive_begin, Option.bind_some]
    show loopO wire_Feed_b1 _ = _
    rw [loopO_eq]
    unfold wire_Feed_b1
    dsimp only
    have hm : wire_reading_more (S_wire_reading.mk (S_Reader.mk true [] [] true (S_Message.mk aliveS [] []) (B 0 0) zeroC 0) []) = some (true, S_wire_reading.mk (rd0 []) [S_Message.mk aliveS [] []]) := by
      have e : wire_reading_more (S_wire_reading.mk (S_Reader.mk true [] [] true (S_Message.mk aliveS [] []) (B 0 0) zeroC 0) []) = (wire_reading_whole (S_wire_reading.mk (S_Reader.mk true [] [] true (S_Message.mk aliveS [] []) (B 0 0) zeroC 0) [])).bind fun x1 => some (x1.1, x1.2) := rfl
      rw [e, whole_eq (by decide), Option.bind_some]
      rfl
    rw [cond_true, hm, Option.bind_some]
    show loopO wire_Feed_b1 _ = _
    rw [loopO_eq]
    unfold wire_Feed_b1
    rw [show (S_wire_reading.mk (rd0 []) [S_Message.mk aliveS [] []]).Reader.In = false from rfl, cond_false, begin_eq, skip_none (by kernel_rfl), Option.bind_some]
    have hE : head_End (S_wire_reading.mk (rd0 []) [S_Message.mk aliveS [] []]).Reader.Buf = some (0, 3) := by kernel_rfl
    rw [hE]
    rfl
  unfold intarsialaw10_alive wire_New
  rw [Option.bind_some]
  have hF' : wire_Feed (S_Reader.mk true [] ([] : Bytes) false (S_Message.mk (S_Start.mk ([] : Bytes) ([] : Bytes) (0 : Int) ([] : Bytes) (0 : Int)) ([] : List S_Field) ([] : Bytes)) (S_Body.mk (0 : Int) (0 : Int)) (S_Chunked.mk (0 : Int) ([] : Bytes) (0 : Int) (0 : Int)) (0 : Int)) ([71, 69, 84, 32, 47, 32, 72, 84, 84, 80, 47, 49, 46, 49, 13, 10, 13, 10] : Bytes) = some (rd0 [], [S_Message.mk aliveS [] []], 0) := hF
  rw [hF', Option.bind_some]
  show (gidx true [S_Message.mk aliveS [] []] 0).bind _ = some true
  kernel_rfl
end Go.Proofs.YtkfoahoplndelaaGreatDoor
namespace Go.Proofs.YtkfoahoplndelaaGreatDoor
open Go Go.Pm
set_option linter.unusedVariables false
set_option maxRecDepth 100000
theorem loop_opt {σ ρ : Type} {body : σ → Option (σ ⊕ ρ)} (μ : σ → Nat) (Inv : σ → Prop) (V : σ → Option ρ)
    (h : ∀ x, Inv x → (∃ y, body x = some (.inl y) ∧ Inv y ∧ μ y < μ x ∧ V x = V y) ∨ ∃ r, body x = some (.inr r) ∧ V x = some r) : ∀ x, Inv x → loopO body x = V x := by
  have key : ∀ n x, μ x ≤ n → Inv x → loopO body x = V x := by
    intro n
    induction n with
    | zero =>
      intro x hx hi
      rw [loopO_eq]
      rcases h x hi with ⟨y, h1, h2, h3, h4⟩ | ⟨r, h1, h2⟩
      · omega
      · rw [h1, h2]
    | succ n ih =>
      intro x hx hi
      rw [loopO_eq]
      rcases h x hi with ⟨y, h1, h2, h3, h4⟩ | ⟨r, h1, h2⟩
      · rw [h1, h4]; exact ih y (by omega) h2
      · rw [h1, h2]
  exact fun x => key (μ x) x (Nat.le_refl _)
theorem cutC_parts (c : UInt8) : ∀ s : Bytes, (cutC c s = (s, [], false) ∧ s.contains c = false) ∨ ∃ u r, cutC c s = (u, r, true) ∧ s = u ++ c :: r ∧ u.contains c = false
  | [] => .inl ⟨rfl, rfl⟩
  | x :: s => by
    unfold cutC
    cases hx : (x == c) with
    | true => exact .inr ⟨[], s, rfl, by rw [eq_of_beq hx]; rfl, rfl⟩
    | false =>
      have hx' : (c == x) = false := by
        cases h : (c == x) with
        | false => rfl
        | true => rw [eq_of_beq h] at hx; simp at hx
      rcases cutC_parts c s with ⟨h1, h2⟩ | ⟨u, r, h1, h2, h3⟩
      · left; rw [h1]; exact ⟨rfl, by rw [List.contains_cons, hx', h2]; rfl⟩
      · right; rw [h1]; exact ⟨x :: u, r, rfl, by rw [h2]; rfl, by rw [List.contains_cons, hx', h3]; rfl⟩
abbrev CR : Type := Int ⊕ (S_Chunked × Bytes × Nat)
def bumpN (d : Bytes) (n : Nat) : CR → CR
  | .inl e => .inl e
  | .inr r => .inr (r.1, d ++ r.2.1, r.2.2 + n)
theorem bump0 : bumpN [] 0 = id := by funext x; cases x <;> rfl
theorem bump_bump (d d' : Bytes) (n n' : Nat) (x : CR) : bumpN d n (bumpN d' n' x) = bumpN (d ++ d') (n' + n) x := by
  cases x with
  | inl e => rfl
  | inr r => unfold bumpN; simp [Nat.add_assoc]
theorem map_bump (d d' : Bytes) (n n' : Nat) (o : Option CR) : (o.map (bumpN d' n')).map (bumpN d n) = o.map (bumpN (d ++ d') (n' + n)) := by
  cases o with
  | none => rfl
  | some x => exact congrArg some (bump_bump d d' n n' x)
def dat (c : S_Chunked) (k : Nat) : S_Chunked := bif c.Left - (k : Int) == 0 then S_Chunked.mk 2 c.Line (c.Left - (k : Int)) (c.Size + (k : Int)) else S_Chunked.mk c.Stage c.Line (c.Left - (k : Int)) (c.Size + (k : Int))
def addL (c : S_Chunked) (u : Bytes) : S_Chunked := S_Chunked.mk c.Stage (c.Line ++ u) c.Left c.Size
noncomputable def fOf (c : S_Chunked) : S_chunk_state → Bytes → Option (Unit × S_chunk_state) := bif c.Stage == (2 : Int) then chunk_state_end else bif c.Stage == (3 : Int) then chunk_state_tail else chunk_state_size
noncomputable def lineF (c : S_Chunked) (l : Bytes) : Option S_chunk_state := (strings_TrimSuffix l [13]).bind fun x => (fOf c (S_chunk_state.mk (S_Chunked.mk c.Stage [] c.Left c.Size) 0) x).bind fun r => some r.2
noncomputable def cRun : S_Chunked → Bytes → Option CR
  | c, [] => some (.inr (c, [], 0))
  | c, x :: t =>
    bif c.Stage == (4 : Int) then some (.inr (c, [], 0)) else
    bif c.Stage == (1 : Int) then (cRun (dat c 1) t).map (bumpN [x] 1) else
    bif x == 10 then (lineF c c.Line).bind fun st => bif st.bad != (0 : Int) then some (.inl st.bad) else (cRun st.Chunked t).map (bumpN [] 1) else
    bif decide (c.Line.length + 1 > 200) then some (.inl 33) else (cRun (addL c [x]) t).map (bumpN [] 1)
theorem cRun_nil (c : S_Chunked) : cRun c [] = some (.inr (c, [], 0)) := by unfold cRun; rfl
theorem cRun_done {c : S_Chunked} (h : c.Stage = 4) (t : Bytes) : cRun c t = some (.inr (c, [], 0)) := by
  cases t with
  | nil => exact cRun_nil c
  | cons x t => unfold cRun; rw [h]; rfl
theorem cRun_dat1 {c : S_Chunked} (h : c.Stage = 1) (x : UInt8) (t : Bytes) : cRun c (x :: t) = (cRun (dat c 1) t).map (bumpN [x] 1) := by
  conv => lhs; unfold cRun
  rw [h]; rfl
theorem cRun_lf {c : S_Chunked} (h1 : c.Stage ≠ 1) (h4 : c.Stage ≠ 4) (t : Bytes) : cRun c (10 :: t) = (lineF c c.Line).bind fun st => bif st.bad != (0 : Int) then some (.inl st.bad) else (cRun st.Chunked t).map (bumpN [] 1) := by
  conv => lhs; unfold cRun
  rw [show (c.Stage == (4 : Int)) = false by simpa using h4, show (c.Stage == (1 : Int)) = false by simpa using h1]; rfl
theorem cRun_one {c : S_Chunked} (h1 : c.Stage ≠ 1) (h4 : c.Stage ≠ 4) {x : UInt8} (hx : (x == 10) = false) (t : Bytes) : cRun c (x :: t) = bif decide (c.Line.length + 1 > 200) then some (.inl 33) else (cRun (addL c [x]) t).map (bumpN [] 1) := by
  conv => lhs; unfold cRun
  rw [show (c.Stage == (4 : Int)) = false by simpa using h4, show (c.Stage == (1 : Int)) = false by simpa using h1, hx]; rfl
theorem cRun_line : ∀ (u : Bytes) (c : S_Chunked) (r : Bytes), c.Stage ≠ 1 → c.Stage ≠ 4 → u.contains 10 = false → c.Line.length ≤ 200 → cRun c (u ++ r) = bif decide (c.Line.length + u.length > 200) then some (.inl 33) else (cRun (addL c u) r).map (bumpN [] u.length)
  | [], c, r, h1, h4, hu, hl => by
    rw [decide_eq_false (by simp; omega), cond_false]
    show cRun c r = (cRun (addL c []) r).map (bumpN [] 0)
    rw [bump0]
    have : addL c [] = c := by unfold addL; simp
    rw [this]
    cases cRun c r <;> rfl
  | x :: u, c, r, h1, h4, hu, hl => by
    rw [List.contains_cons, Bool.or_eq_false_iff] at hu
    have hx : (x == 10) = false := by
      cases h : (x == 10) with
      | false => rfl
      | true => rw [eq_of_beq h] at hu; simp at hu
    show cRun c (x :: (u ++ r)) = _
    rw [cRun_one h1 h4 hx]
    by_cases ho : c.Line.length + 1 > 200
    · rw [decide_eq_true ho, decide_eq_true (by simp; omega)]; rfl
    · have hl' : (addL c [x]).Line.length = c.Line.length + 1 := by unfold addL; simp
      rw [decide_eq_false ho, cond_false, cRun_line u (addL c [x]) r h1 h4 hu.2 (by rw [hl']; omega), hl']
      by_cases h2 : c.Line.length + 1 + u.length > 200
      · rw [decide_eq_true h2, decide_eq_true (by simp; omega)]; rfl
      · rw [decide_eq_false h2, decide_eq_false (by simp; omega), cond_false, cond_false, map_bump]
        have : addL (addL c [x]) u = addL c (x :: u) := by unfold addL; simp
        rw [this]; rfl
theorem cRun_data : ∀ (v : Bytes) (c : S_Chunked) (r : Bytes), c.Stage = 1 → v ≠ [] → (v.length : Int) ≤ c.Left → cRun c (v ++ r) = (cRun (dat c v.length) r).map (bumpN v v.length)
  | [], c, r, h1, hv, hl => absurd rfl hv
  | [x], c, r, h1, hv, hl => cRun_dat1 h1 x r
  | x :: y :: v, c, r, h1, hv, hl => by
    show cRun c (x :: (y :: v ++ r)) = _
    simp only [List.length_cons] at hl
    have hd : dat c 1 = S_Chunked.mk c.Stage c.Line (c.Left - 1) (c.Size + 1) := by
      unfold dat
      rw [show (c.Left - ((1 : Nat) : Int) == 0) = false by simp; omega]; rfl
    rw [cRun_dat1 h1, hd, cRun_data (y :: v) (S_Chunked.mk c.Stage c.Line (c.Left - 1) (c.Size + 1)) r h1 (by simp) (by simp; omega), map_bump]
    have : dat (S_Chunked.mk c.Stage c.Line (c.Left - 1) (c.Size + 1)) (y :: v).length = dat c (x :: y :: v).length := by
      unfold dat
      dsimp only
      have e1 : c.Left - 1 - (((y :: v).length : Nat) : Int) = c.Left - (((x :: y :: v).length : Nat) : Int) := by simp; omega
      have e2 : c.Size + 1 + (((y :: v).length : Nat) : Int) = c.Size + (((x :: y :: v).length : Nat) : Int) := by simp; omega
      rw [e1, e2]
    rw [this]; rfl
def toF : CR → S_Chunked × Bytes × Int × Int
  | .inl e => (zeroC, [], 0, e)
  | .inr r => (r.1, r.2.1, (r.2.2 : Int), 0)
theorem line_eq' (o0 : S_chunk_state) (a1 : Bytes) : chunk_state_line o0 a1 = lineG (fOf o0.Chunked) o0 a1 := by
  rw [line_eq]
  unfold fOf
  cases (o0.Chunked.Stage == (2 : Int)) <;> cases (o0.Chunked.Stage == (3 : Int)) <;> rfl
theorem lineG_no {c : S_Chunked} {s : Bytes} (hs : s.contains 10 = false) (hl : c.Line.length ≤ 200) (hsl : s.length ≤ 1000000) (f : S_chunk_state → Bytes → Option (Unit × S_chunk_state)) : lineG f (S_chunk_state.mk c 0) s = bif decide (c.Line.length + s.length > 200) then some (0, S_chunk_state.mk c 33) else some ((s.length : Int), S_chunk_state.mk (addL c s) 0) := by
  have hn : Lib.indexByte s 10 = -1 := by
    have h1 := indexByte_has s 10
    have h2 := indexByte_range s 10
    rw [hs] at h1
    have h1 := of_decide_eq_false h1
    omega
  unfold lineG
  rw [IndexByte_eq, Option.bind_some, show u8 10 = (10 : UInt8) from rfl, hn]
  show (bif decide ((IntKind.i64.wrap (((c.Line).length : Int) + (s.length : Int))) > (200 : Int)) then _ else _) = _
  rw [wrap_i64 (by omega) (by omega)]
  by_cases h : c.Line.length + s.length > 200
  · rw [decide_eq_true h, decide_eq_true (by omega)]; rfl
  · rw [decide_eq_false h, decide_eq_false (by omega), cond_false, cond_false]
    have hcat : cat c.Line s = some (c.Line ++ s) := by unfold cat; rw [chk_pos (by unfold maxLen; omega)]
    show (cat c.Line s).bind _ = _
    rw [hcat]; rfl
theorem lineG_at {c : S_Chunked} {u r : Bytes} (hu : u.contains 10 = false) (hl : c.Line.length ≤ 200) (hsl : (u ++ 10 :: r).length ≤ 1000000) (f : S_chunk_state → Bytes → Option (Unit × S_chunk_state)) : lineG f (S_chunk_state.mk c 0) (u ++ 10 :: r) = bif decide (c.Line.length + u.length > 200) then some (0, S_chunk_state.mk c 33) else (strings_TrimSuffix (c.Line ++ u) [13]).bind fun x => (f (S_chunk_state.mk (S_Chunked.mk c.Stage [] c.Left c.Size) 0) x).bind fun q => some (((u.length + 1 : Nat) : Int), q.2) := by
  have hn : Lib.indexByte (u ++ 10 :: r) 10 = (u.length : Int) := by
    clear hl hsl
    induction u with
    | nil => simp [Lib.indexByte]
    | cons x u ih =>
      rw [List.contains_cons, Bool.or_eq_false_iff] at hu
      have hx : (x == 10) = false := by
        cases h : (x == 10) with
        | false => rfl
        | true => rw [eq_of_beq h] at hu; simp at hu
      show Lib.indexByte (x :: (u ++ 10 :: r)) 10 = _
      unfold Lib.indexByte
      rw [hx, ih hu.2]
      have : (((u.length : Nat) : Int) == -1) = false := by simp
      simp [this]
  simp only [List.length_append, List.length_cons] at hsl
  unfold lineG
  rw [IndexByte_eq, Option.bind_some, show u8 10 = (10 : UInt8) from rfl, hn]
  have hs : slc (u ++ 10 :: r) 0 (u.length : Int) = some u := by
    unfold slc
    rw [chk_pos (by simp; omega)]
    simp
  rw [decide_eq_true (show ((u.length : Int) ≥ 0) by omega), cond_true, hs, Option.bind_some]
  show (bif decide ((IntKind.i64.wrap (((c.Line).length : Int) + (u.length : Int))) > (200 : Int)) then _ else _) = _
  rw [wrap_i64 (by omega) (by omega)]
  by_cases h : c.Line.length + u.length > 200
  · rw [decide_eq_true h, decide_eq_true (by omega)]; rfl
  · rw [decide_eq_false h, decide_eq_false (by omega), cond_false, cond_false]
    have hcat : cat c.Line u = some (c.Line ++ u) := by unfold cat; rw [chk_pos (by unfold maxLen; omega)]
    show (cat c.Line u).bind _ = _
    rw [hcat, Option.bind_some, decide_eq_false (show ¬ ((u.length : Int) < 0) by omega), cond_false, wrap_i64 (by omega) (by omega)]
    rfl
theorem CFeed_eq {c : S_Chunked} {t : Bytes} (hc : ChOk c) (ht : t.length ≤ 1000000) : chunk_Feed c t = (cRun c t).map toF := by
  unfold chunk_Feed
  obtain ⟨b, hb, hb2⟩ := chRight (c := c)
  rw [hb, hb2.2 hc, Option.bind_some]
  show loopO (chunk_Feed_b1 t) ((0 : Int), (S_chunk_state.mk c (0 : Int)), ([] : Bytes)) = _
  have key := loop_opt (body := chunk_Feed_b1 t) (fun x : Int × S_chunk_state × Bytes => t.length - x.1.toNat)
    (fun x => ∃ (i : Nat) (c1 : S_Chunked), x.1 = (i : Int) ∧ i ≤ t.length ∧ x.2.1 = S_chunk_state.mk c1 0 ∧ ChOk c1 ∧ c1.Size = c.Size + (x.2.2.length : Int))
    (fun x => ((cRun x.2.1.Chunked (t.drop x.1.toNat)).map (bumpN x.2.2 x.1.toNat)).map toF) (fun x hx => ?_) ((0 : Int), (S_chunk_state.mk c (0 : Int)), ([] : Bytes)) ⟨0, c, rfl, Nat.zero_le _, rfl, hc, by simp⟩
  · rw [key]
    show ((cRun c t).map (bumpN [] 0)).map toF = _
    rw [bump0]
    cases cRun c t <;> rfl
  obtain ⟨a, st, d⟩ := x
  obtain ⟨i, c1, h1, h2, h3, h4, h5⟩ := hx
  simp only at h1 h2 h3 h4 h5
  subst h1 h3
  have hdl : d.length ≤ 20000 := by have := h4.size; have := hc.size; omega
  have hfin : ((cRun c1 (t.drop ((i : Int)).toNat)).map (bumpN d ((i : Int)).toNat)).map toF = ((cRun c1 (t.drop i)).map (bumpN d i)).map toF := by rw [Int.toNat_natCast]
  unfold chunk_Feed_b1
  dsimp only
  by_cases hlt : i < t.length
  · rw [decide_eq_true (show (i : Int) < (t.length : Int) by omega), cond_true]
    by_cases hs4 : c1.Stage = 4
    · have e : (c1.Stage != (4 : Int)) = false := by simp [hs4]
      rw [e, cond_false]
      refine .inr ⟨_, by unfold bcat; rw [if_pos (by simp; omega)]; rfl, ?_⟩
      rw [hfin, cRun_done hs4]
      show some (c1, d ++ [], ((0 + i : Nat) : Int), (0 : Int)) = _
      simp
    · have e : (c1.Stage != (4 : Int)) = true := by simp [hs4]
      rw [e, cond_true]
      by_cases hs1 : c1.Stage = 1
      · have e1 : (c1.Stage != (1 : Int)) = false := by simp [hs1]
        obtain ⟨g1, g2, g3⟩ := h4.data hs1
        have hsz := h4.size
        rw [e1, cond_false]
        have ew : IntKind.i64.wrap ((t.length : Int) - i) = (t.length : Int) - i := wrap_i64 (by omega) (by omega)
        rw [ew]
        obtain ⟨m, hm, hm1, hm2, hm3⟩ : ∃ m : Nat, imin c1.Left ((t.length : Int) - i) = (m : Int) ∧ 1 ≤ m ∧ (m : Int) ≤ c1.Left ∧ i + m ≤ t.length := by
          rcases imin_cases c1.Left ((t.length : Int) - i) with ⟨q1, q2⟩ | ⟨q1, q2⟩
          · rw [q1]; exact ⟨c1.Left.toNat, by omega, by omega, by omega, by omega⟩
          · rw [q1]; exact ⟨t.length - i, by omega, by omega, by omega, by omega⟩
        rw [hm]
        have ew2 : IntKind.i64.wrap ((i : Int) + m) = ((i + m : Nat) : Int) := by rw [wrap_i64 (by omega) (by omega)]; omega
        have ew3 : IntKind.i64.wrap (c1.Left - m) = c1.Left - m := wrap_i64 (by omega) (by omega)
        have ew4 : IntKind.i64.wrap (c1.Size + m) = c1.Size + m := wrap_i64 (by omega) (by omega)
        rw [ew2, ew3, ew4]
        have hsl : slc t (i : Int) ((i + m : Nat) : Int) = some ((t.drop i).take m) := by
          unfold slc
          rw [chk_pos (by omega)]
          show some ((t.drop i).take (i + m - i)) = _
          rw [Nat.add_sub_cancel_left]
        rw [hsl, Option.bind_some]
        have hxl : ((t.drop i).take m).length = m := by simp; omega
        have hbc : bcat d ((t.drop i).take m) = some (d ++ (t.drop i).take m) := by unfold bcat; rw [if_pos (by rw [hxl]; omega)]
        rw [hbc, Option.bind_some]
        have hsz2 : c1.Size + m = c.Size + ((d ++ (t.drop i).take m).length : Int) := by rw [List.length_append, hxl]; omega
        have hsplit : t.drop i = (t.drop i).take m ++ t.drop (i + m) := by rw [← List.drop_drop, List.take_append_drop]
        have hrun : ((cRun c1 (t.drop i)).map (bumpN d i)).map toF = ((cRun (dat c1 m) (t.drop (i + m))).map (bumpN (d ++ (t.drop i).take m) (i + m))).map toF := by
          conv => lhs; rw [hsplit]
          rw [cRun_data _ _ _ hs1 (fun h => by rw [h] at hxl; simp at hxl; omega) (by rw [hxl]; exact hm2), map_bump, hxl]
          rw [Nat.add_comm m i]
        by_cases h0 : c1.Left - m = 0
        · have e0 : ((c1.Left - (m : Int)) == (0 : Int)) = true := by simp [h0]
          have hd : dat c1 m = S_Chunked.mk 2 c1.Line (c1.Left - m) (c1.Size + m) := by unfold dat; rw [e0]; rfl
          rw [e0, cond_true]
          refine .inl ⟨_, rfl, ⟨i + m, dat c1 m, rfl, by omega, by rw [hd], ?_, ?_⟩, by show t.length - ((i + m : Nat) : Int).toNat < t.length - ((i : Nat) : Int).toNat; omega, ?_⟩
          · rw [hd]; exact ⟨by simp, by show 0 ≤ c1.Size + (m : Int) ∧ c1.Size + (m : Int) ≤ 20000; omega, h4.line, fun h => (by cases h), fun _ => ⟨h0, fun h => by cases h⟩⟩
          · rw [hd]; exact hsz2
          · rw [hfin, hrun, hd]
            rfl
        · have e0 : ((c1.Left - (m : Int)) == (0 : Int)) = false := by simp [h0]
          have hd : dat c1 m = S_Chunked.mk c1.Stage c1.Line (c1.Left - m) (c1.Size + m) := by unfold dat; rw [e0]; rfl
          rw [e0, cond_false]
          refine .inl ⟨_, rfl, ⟨i + m, dat c1 m, rfl, by omega, by rw [hd], ?_, ?_⟩, by show t.length - ((i + m : Nat) : Int).toNat < t.length - ((i : Nat) : Int).toNat; omega, ?_⟩
          · rw [hd]; exact ⟨h4.stage, by show 0 ≤ c1.Size + (m : Int) ∧ c1.Size + (m : Int) ≤ 20000; omega, h4.line, fun _ => ⟨by show 1 ≤ c1.Left - (m : Int); omega, by show c1.Left - (m : Int) ≤ 20000 - (c1.Size + (m : Int)); omega, g3⟩, fun h => absurd hs1 h⟩
          · rw [hd]; exact hsz2
          · rw [hfin, hrun, hd]
            rfl
      · have e1 : (c1.Stage != (1 : Int)) = true := by simp [hs1]
        rw [e1, cond_true]
        have hsl : slc t (i : Int) (t.length : Int) = some (t.drop i) := by
          unfold slc
          rw [chk_pos (by omega)]
          show some ((t.drop i).take (t.length - i)) = _
          rw [List.take_of_length_le (by simp)]
        rw [hsl, Option.bind_some]
        have hxl : (t.drop i).length = t.length - i := by simp
        obtain ⟨x6, hx6, hq⟩ := line_tot (a1 := t.drop i) h4 hs1 hs4 (by rw [hxl]; omega) (by rw [hxl]; omega)
        have hll := h4.line.1
        rw [hx6, Option.bind_some]
        rw [line_eq'] at hx6
        have hx6 : lineG (fOf c1) (S_chunk_state.mk c1 0) (t.drop i) = some x6 := hx6
        rcases cutC_parts 10 (t.drop i) with ⟨_, hno⟩ | ⟨u, r, _, hsp, hu⟩
        · rw [lineG_no hno hll (by omega)] at hx6
          have hrun := cRun_line (t.drop i) c1 [] hs1 hs4 hno hll
          rw [List.append_nil] at hrun
          by_cases hov : c1.Line.length + (t.drop i).length > 200
          · rw [decide_eq_true hov, cond_true] at hx6 hrun
            cases hx6
            refine .inr ⟨_, rfl, ?_⟩
            rw [hfin, hrun]; rfl
          · rw [decide_eq_false hov, cond_false] at hx6 hrun
            cases hx6
            have ew : IntKind.i64.wrap ((i : Int) + (((t.drop i).length : Nat) : Int)) = ((t.length : Nat) : Int) := by rw [wrap_i64 (by omega) (by omega)]; omega
            rcases hq with hq | ⟨_, _, _, q4, q5⟩
            · exact absurd rfl hq
            refine .inl ⟨_, rfl, ⟨t.length, addL c1 (t.drop i), ew, Nat.le_refl _, rfl, q4, by show (addL c1 (t.drop i)).Size = _; rw [q5]; exact h5⟩, ?_, ?_⟩
            · show t.length - (IntKind.i64.wrap ((i : Int) + (((t.drop i).length : Nat) : Int))).toNat < t.length - ((i : Nat) : Int).toNat
              rw [ew]; omega
            · rw [hfin, hrun, map_bump]
              show _ = ((cRun (addL c1 (t.drop i)) (t.drop (IntKind.i64.wrap ((i : Int) + (((t.drop i).length : Nat) : Int))).toNat)).map (bumpN d (IntKind.i64.wrap ((i : Int) + (((t.drop i).length : Nat) : Int))).toNat)).map toF
              rw [ew, Int.toNat_natCast, List.drop_length, List.append_nil, hxl, Nat.sub_add_cancel (by omega)]
        · rw [hsp, lineG_at hu hll (by rw [← hsp]; omega)] at hx6
          have hrun := cRun_line u c1 (10 :: r) hs1 hs4 hu hll
          rw [← hsp] at hrun
          by_cases hov : c1.Line.length + u.length > 200
          · rw [decide_eq_true hov, cond_true] at hx6 hrun
            cases hx6
            refine .inr ⟨_, rfl, ?_⟩
            rw [hfin, hrun]; rfl
          · rw [decide_eq_false hov, cond_false] at hx6 hrun
            rw [cRun_lf (c := addL c1 u) hs1 hs4] at hrun
            have hF : lineF (addL c1 u) (addL c1 u).Line = some x6.2 ∧ x6.1 = ((u.length + 1 : Nat) : Int) := by
              unfold lineF
              show ((strings_TrimSuffix (c1.Line ++ u) [13]).bind fun x => (fOf c1 (S_chunk_state.mk (S_Chunked.mk c1.Stage [] c1.Left c1.Size) 0) x).bind fun r => some r.2) = some x6.2 ∧ _
              cases h1 : strings_TrimSuffix (c1.Line ++ u) [13] with
              | none => rw [h1] at hx6; cases hx6
              | some x =>
                rw [h1, Option.bind_some] at hx6
                rw [Option.bind_some]
                cases h2 : fOf c1 (S_chunk_state.mk (S_Chunked.mk c1.Stage [] c1.Left c1.Size) 0) x with
                | none => rw [h2] at hx6; cases hx6
                | some q => rw [h2] at hx6; cases hx6; exact ⟨rfl, rfl⟩
            rw [hF.1, Option.bind_some] at hrun
            have hul : i + u.length + 1 + r.length = t.length := by
              have := congrArg List.length hsp
              simp at this
              omega
            rcases hq with hq | ⟨_, _, q3, q4, q5⟩
            · have e2 : (x6.2.bad != (0 : Int)) = true := by simpa using hq
              rw [e2, cond_true]
              rw [e2, cond_true] at hrun
              refine .inr ⟨_, rfl, ?_⟩
              rw [hfin, hrun]; rfl
            · have e2 : (x6.2.bad != (0 : Int)) = false := by simp [q3]
              rw [e2, cond_false]
              rw [e2, cond_false] at hrun
              have ew : IntKind.i64.wrap ((i : Int) + x6.1) = ((i + u.length + 1 : Nat) : Int) := by rw [hF.2, wrap_i64 (by omega) (by omega)]; omega
              have hdr : t.drop (i + u.length + 1) = r := by
                rw [Nat.add_assoc, ← List.drop_drop, hsp]
                simp
              obtain ⟨y1, ⟨y2, y3⟩⟩ := x6
              simp only at q3 q4 q5 ew hrun
              subst q3
              refine .inl ⟨_, rfl, ⟨i + u.length + 1, y2, ew, by omega, rfl, q4, by show y2.Size = _; rw [q5]; exact h5⟩, ?_, ?_⟩
              · show t.length - (IntKind.i64.wrap ((i : Int) + y1)).toNat < t.length - ((i : Nat) : Int).toNat
                rw [ew]; omega
              · rw [hfin, hrun, map_bump, map_bump]
                show _ = ((cRun y2 (t.drop (IntKind.i64.wrap ((i : Int) + y1)).toNat)).map (bumpN d (IntKind.i64.wrap ((i : Int) + y1)).toNat)).map toF
                rw [ew, Int.toNat_natCast, hdr, List.append_nil, List.append_nil]
                have : 1 + (u.length + i) = i + u.length + 1 := by omega
                rw [this]
  · rw [decide_eq_false (show ¬ (i : Int) < (t.length : Int) by omega), cond_false]
    refine .inr ⟨_, by unfold bcat; rw [if_pos (by simp; omega)]; rfl, ?_⟩
    rw [hfin, show t.drop i = [] by simp; omega, cRun_nil]
    show some (c1, d ++ [], ((0 + i : Nat) : Int), (0 : Int)) = _
    simp
end Go.Proofs.YtkfoahoplndelaaGreatDoor
namespace Go.Proofs.YtkfoahoplndelaaGreatDoor
open Go Go.Pm
set_option linter.unusedVariables false
set_option maxRecDepth 100000
/-! ### Lines -/
noncomputable def trimR (s : Bytes) : Bytes := (strings_TrimSuffix s [13]).getD []
theorem trimR_eq {s : Bytes} (hs : s.length ≤ maxLen) : strings_TrimSuffix s [13] = some (trimR s) := by
  obtain ⟨x, hx, _⟩ := TrimS_tot 13 hs
  unfold trimR
  rw [hx]; rfl
noncomputable def rowsA : Bytes → Nat → Bytes → List (Bytes × Int)
  | _, _, [] => []
  | acc, a, x :: s => bif x == 10 then (trimR acc, ((a + 1 : Nat) : Int)) :: rowsA [] (a + 1) s else rowsA (acc ++ [x]) (a + 1) s
theorem rowsA_nil (acc : Bytes) (a : Nat) : rowsA acc a [] = [] := by unfold rowsA; rfl
theorem rowsA_cons (acc : Bytes) (a : Nat) (x : UInt8) (s : Bytes) : rowsA acc a (x :: s) = bif x == 10 then (trimR acc, ((a + 1 : Nat) : Int)) :: rowsA [] (a + 1) s else rowsA (acc ++ [x]) (a + 1) s := by
  conv => lhs; unfold rowsA
theorem rowsA_line : ∀ (u acc : Bytes) (a : Nat) (r : Bytes), u.contains 10 = false → rowsA acc a (u ++ r) = rowsA (acc ++ u) (a + u.length) r
  | [], acc, a, r, _ => by simp
  | x :: u, acc, a, r, hu => by
    rw [List.contains_cons, Bool.or_eq_false_iff] at hu
    have hx : (x == 10) = false := by
      cases h : (x == 10) with
      | false => rfl
      | true => rw [eq_of_beq h] at hu; simp at hu
    rw [List.cons_append, rowsA_cons, hx, cond_false, rowsA_line u _ _ r hu.2]
    have e1 : acc ++ [x] ++ u = acc ++ x :: u := by simp
    have e2 : a + 1 + u.length = a + (x :: u).length := by simp; omega
    rw [e1, e2]
theorem rowsA_append : ∀ (s acc : Bytes) (a : Nat) (t : Bytes), ∃ acc', rowsA acc a (s ++ t) = rowsA acc a s ++ rowsA acc' (a + s.length) t
  | [], acc, a, t => ⟨acc, by rw [rowsA_nil]; rfl⟩
  | x :: s, acc, a, t => by
    have e2 : a + 1 + s.length = a + (x :: s).length := by simp; omega
    cases hx : (x == 10) with
    | true =>
      obtain ⟨acc', h⟩ := rowsA_append s [] (a + 1) t
      refine ⟨acc', ?_⟩
      rw [List.cons_append, rowsA_cons, rowsA_cons, hx, cond_true, cond_true, h, e2]
      rfl
    | false =>
      obtain ⟨acc', h⟩ := rowsA_append s (acc ++ [x]) (a + 1) t
      refine ⟨acc', ?_⟩
      rw [List.cons_append, rowsA_cons, rowsA_cons, hx, cond_false, cond_false, h, e2]
theorem rowsA_pos : ∀ (s acc : Bytes) (a : Nat) (x : Bytes × Int), x ∈ rowsA acc a s → (a : Int) < x.2
  | [], acc, a, x, h => by rw [rowsA_nil] at h; cases h
  | y :: s, acc, a, x, h => by
    rw [rowsA_cons] at h
    cases hy : (y == 10) with
    | true =>
      rw [hy, cond_true] at h
      rcases List.mem_cons.1 h with rfl | h
      · show (a : Int) < ((a + 1 : Nat) : Int); omega
      · have := rowsA_pos s [] (a + 1) x h; omega
    | false =>
      rw [hy, cond_false] at h
      have := rowsA_pos s _ (a + 1) x h; omega
theorem indexByte_at {u : Bytes} (r : Bytes) (hu : u.contains 10 = false) : Lib.indexByte (u ++ 10 :: r) 10 = (u.length : Int) := by
  induction u with
  | nil => simp [Lib.indexByte]
  | cons x u ih =>
    rw [List.contains_cons, Bool.or_eq_false_iff] at hu
    have hx : (x == 10) = false := by
      cases h : (x == 10) with
      | false => rfl
      | true => rw [eq_of_beq h] at hu; simp at hu
    show Lib.indexByte (x :: (u ++ 10 :: r)) 10 = _
    unfold Lib.indexByte
    rw [hx, ih hu.2]
    have : (((u.length : Nat) : Int) == -1) = false := by simp
    simp [this]
theorem items_eq {s : Bytes} (hs : s.length ≤ 1000000) : ∀ (k : Nat) (a : Nat), a ≤ s.length → s.length < k + a → head_items s k (a : Int) = some (rowsA [] a (s.drop a)) := by
  intro k
  induction k with
  | zero => intro a ha h; omega
  | succ k ih =>
    intro a ha h
    unfold head_items
    by_cases hd : a < s.length
    · rw [decide_eq_true (show (a : Int) < (s.length : Int) by omega), cond_true]
      have hsl : slc s (a : Int) (s.length : Int) = some (s.drop a) := by
        unfold slc
        rw [chk_pos (by omega)]
        show some ((s.drop a).take (s.length - a)) = _
        rw [List.take_of_length_le (by simp)]
      rw [hsl, Option.bind_some, IndexByte_eq, Option.bind_some, show u8 10 = (10 : UInt8) from rfl]
      have hxl : (s.drop a).length = s.length - a := by simp
      rcases cutC_parts 10 (s.drop a) with ⟨_, hno⟩ | ⟨u, r, _, hsp, hu⟩
      · have hn : Lib.indexByte (s.drop a) 10 = -1 := by
          have h1 := indexByte_has (s.drop a) 10
          have h2 := indexByte_range (s.drop a) 10
          rw [hno] at h1
          have h1 := of_decide_eq_false h1
          omega
        rw [hn]
        show some [] = some (rowsA [] a (s.drop a))
        have := rowsA_line (s.drop a) [] a [] hno
        rw [List.append_nil] at this
        rw [this, rowsA_nil]
      · have hn : Lib.indexByte (u ++ 10 :: r) 10 = (u.length : Int) := by
          exact indexByte_at r hu
        have hul : a + u.length + 1 + r.length = s.length := by
          have := congrArg List.length hsp
          simp at this
          omega
        have hdr : s.drop (a + u.length + 1) = r := by
          rw [Nat.add_assoc, ← List.drop_drop, hsp]
          simp
        have hus : slc s (a : Int) (((a + u.length : Nat)) : Int) = some u := by
          unfold slc
          rw [chk_pos (by omega)]
          show some ((s.drop a).take (a + u.length - a)) = _
          rw [hsp, Nat.add_sub_cancel_left]
          simp
        rw [hsp, hn, decide_eq_false (show ¬ ((u.length : Nat) : Int) < 0 by omega), cond_false]
        have w1 : IntKind.i64.wrap ((a : Int) + ((u.length : Nat) : Int)) = ((a + u.length : Nat) : Int) := by rw [wrap_i64 (by omega) (by omega)]; omega
        have w2 : IntKind.i64.wrap (((u.length : Nat) : Int) + 1) = ((u.length : Nat) : Int) + 1 := wrap_i64 (by omega) (by omega)
        have w3 : IntKind.i64.wrap ((a : Int) + (((u.length : Nat) : Int) + 1)) = ((a + u.length + 1 : Nat) : Int) := by rw [wrap_i64 (by omega) (by omega)]; omega
        rw [w1, w2, w3, hus, Option.bind_some, trimR_eq (by unfold maxLen; omega), Option.bind_some, ih (a + u.length + 1) (by omega) (by omega), Option.bind_some, hdr, rowsA_line u [] a _ hu, List.nil_append, rowsA_cons]
        rfl
    · rw [decide_eq_false (show ¬ (a : Int) < (s.length : Int) by omega), cond_false, show s.drop a = [] by simp; omega]
      rw [rowsA_nil]
noncomputable def endB (s : Bytes) : Int × Int := head_find s.length (rowsA [] 0 s)
theorem End_eq {s : Bytes} (hs : s.length ≤ 1000000) : head_End s = some (endB s) := by
  unfold head_End head_rows endB
  have := items_eq hs (s.length + 1) 0 (Nat.zero_le _) (by omega)
  rw [show head_items s (s.length + 1) 0 = some (rowsA [] 0 (s.drop 0)) from this]; rfl
theorem find_nil (n : Nat) : head_find n [] = bif decide ((n : Int) > 4000) then (0, 2) else (0, 3) := rfl
theorem find_cons (n : Nat) (line : Bytes) (a : Int) (l : List (Bytes × Int)) : head_find n ((line, a) :: l) = bif decide (a > 4000) then (0, 2) else bif line == [] then (a, 0) else head_find n l := rfl
theorem find_append (n n' : Nat) (hn : n ≤ n') (l' : List (Bytes × Int)) (hl : ∀ x, x ∈ l' → (n : Int) < x.2) (l : List (Bytes × Int)) (h : (head_find n l).2 ≠ 3) : head_find n' (l ++ l') = head_find n l := by
  induction l with
  | nil =>
    rw [find_nil] at h ⊢
    by_cases h4 : (n : Int) > 4000
    · rw [decide_eq_true h4, List.nil_append, cond_true]
      cases l' with
      | nil => rw [find_nil, decide_eq_true (by omega)]; rfl
      | cons x l' =>
        have := hl x (List.mem_cons_self ..)
        obtain ⟨x1, x2⟩ := x
        rw [find_cons, decide_eq_true (by simp only at this; omega)]; rfl
    · rw [decide_eq_false h4, cond_false] at h; exact absurd rfl h
  | cons x l ih =>
    obtain ⟨line, a⟩ := x
    rw [List.cons_append, find_cons, find_cons]
    rw [find_cons] at h
    cases h1 : decide (a > 4000) with
    | true => rw [cond_true, cond_true]
    | false =>
      rw [cond_false, cond_false]
      cases h2 : (line == []) with
      | true => rw [cond_true, cond_true]
      | false =>
        rw [h1, h2, cond_false, cond_false] at h
        rw [cond_false, cond_false]
        exact ih h
theorem endB_append {s : Bytes} (h : (endB s).2 ≠ 3) (t : Bytes) : endB (s ++ t) = endB s := by
  unfold endB at h ⊢
  obtain ⟨acc', h2⟩ := rowsA_append s [] 0 t
  rw [h2]
  refine find_append s.length _ (by simp) _ (fun x hx => ?_) _ h
  have := rowsA_pos t acc' _ x hx
  simpa using this
/-! ### What is skipped -/
def skipP : Bytes → Bytes
  | [] => []
  | x :: s => bif x == 10 then skipP s else bif x == 13 then (match s with | [] => [x] | y :: s' => bif y == 10 then skipP s' else x :: y :: s') else x :: s
theorem skipP_lf (s : Bytes) : skipP (10 :: s) = skipP s := by
  conv => lhs; unfold skipP
  rfl
theorem skipP_crlf (s : Bytes) : skipP (13 :: 10 :: s) = skipP s := by
  conv => lhs; unfold skipP
  rfl
theorem skipP_no {s : Bytes} (h1 : hasPre s [10] = false) (h2 : hasPre s [13, 10] = false) : skipP s = s := by
  rcases s with _ | ⟨x, s⟩
  · rfl
  · unfold skipP
    have hx : (x == 10) = false := by
      cases h : (x == 10) with
      | false => rfl
      | true => rw [eq_of_beq h] at h1; exact absurd h1 (by simp [hasPre])
    rw [hx, cond_false]
    cases h : (x == 13) with
    | false => rfl
    | true =>
      rw [cond_true]
      rcases s with _ | ⟨y, s⟩
      · rfl
      · have hy : (y == 10) = false := by
          cases h' : (y == 10) with
          | false => rfl
          | true => rw [eq_of_beq h, eq_of_beq h'] at h2; exact absurd h2 (by simp [hasPre])
        show (bif y == 10 then skipP s else x :: y :: s) = x :: y :: s
        rw [hy]; rfl
theorem pre_lf {s : Bytes} (h : hasPre s [10] = true) : ∃ t, s = 10 :: t := by
  unfold hasPre at h
  obtain ⟨t, rfl⟩ := List.isPrefixOf_iff_prefix.1 h
  exact ⟨t, rfl⟩
theorem pre_crlf {s : Bytes} (h : hasPre s [13, 10] = true) : ∃ t, s = 13 :: 10 :: t := by
  unfold hasPre at h
  obtain ⟨t, rfl⟩ := List.isPrefixOf_iff_prefix.1 h
  exact ⟨t, rfl⟩
theorem skipP_len : ∀ (n : Nat) (b : Bytes), b.length ≤ n → (skipP b).length ≤ b.length := by
  intro n
  induction n with
  | zero =>
    intro b hb
    have : b = [] := List.eq_nil_of_length_eq_zero (by omega)
    subst this; exact Nat.le_refl _
  | succ n ih =>
    intro b hb
    cases h1 : hasPre b [10] with
    | true =>
      obtain ⟨s, rfl⟩ := pre_lf h1
      simp only [List.length_cons] at hb
      rw [skipP_lf]
      have := ih s (by omega); simp; omega
    | false =>
      cases h2 : hasPre b [13, 10] with
      | true =>
        obtain ⟨s, rfl⟩ := pre_crlf h2
        simp only [List.length_cons] at hb
        rw [skipP_crlf]
        have := ih s (by omega); simp; omega
      | false => rw [skipP_no h1 h2]; exact Nat.le_refl _
def skB (a : Bool) (b : Bytes) : Bytes := bif a then skipP b else b
theorem skip_eq {w : S_wire_reading} (hb : w.Reader.Buf.length ≤ 50000) : loopO wire_reading_begin_b1 w = some (setBuf w (skB w.Reader.Asks w.Reader.Buf)) := by
  refine loop_opt (fun x : S_wire_reading => x.Reader.Buf.length) (fun x => x.Reader.Buf.length ≤ 50000) (fun x => some (setBuf x (skB x.Reader.Asks x.Reader.Buf))) (fun x hx => ?_) w hb
  unfold wire_reading_begin_b1
  suffices e : ∀ f : Option (S_wire_reading ⊕ S_wire_reading), f = skipB x x.Reader.Buf → ((∃ y, f = some (Sum.inl y) ∧ y.Reader.Buf.length ≤ 50000 ∧ y.Reader.Buf.length < x.Reader.Buf.length ∧ some (setBuf x (skB x.Reader.Asks x.Reader.Buf)) = some (setBuf y (skB y.Reader.Asks y.Reader.Buf))) ∨ ∃ r, f = some (Sum.inr r) ∧ some (setBuf x (skB x.Reader.Asks x.Reader.Buf)) = some r) from e _ rfl
  intro f hf
  subst hf
  unfold skipB
  cases hA : x.Reader.Asks with
  | false =>
    right
    rw [gcall_ff rfl, Option.bind_some, gcall_ff (show (false && !(default : Bool)) = false from rfl), Option.bind_some]
    exact ⟨_, rfl, rfl⟩
  | true =>
    have big : x.Reader.Buf.length ≤ maxLen := by unfold maxLen; omega
    show (∃ y, _ ∧ _ ∧ _ ∧ some (setBuf x (skipP x.Reader.Buf)) = some (setBuf y (skB y.Reader.Asks y.Reader.Buf))) ∨ ∃ r, _ ∧ some (setBuf x (skipP x.Reader.Buf)) = some r
    have hset : ∀ b : Bytes, skB (setBuf x b).Reader.Asks (setBuf x b).Reader.Buf = skipP b := fun b => by show skB x.Reader.Asks b = _; rw [hA]; rfl
    rw [gcall_tt rfl, HasPrefix_eq, Option.bind_some]
    cases h1 : hasPre x.Reader.Buf [10] with
    | true =>
      left
      rw [gcall_ff (show (true && !true) = false from rfl), Option.bind_some]
      have hl := hasPre_len h1
      obtain ⟨s, hs⟩ := pre_lf h1
      have h13 : hasPre x.Reader.Buf [13] = false := by rw [hs]; rfl
      show ∃ y, ((strings_TrimPrefix x.Reader.Buf ([13] : Bytes)).bind fun x5 => (strings_TrimPrefix x5 ([10] : Bytes)).bind fun x6 => some (Sum.inl (setBuf x x6))) = some (Sum.inl y) ∧ _
      rw [TrimP_eq big, h13, cond_false, Option.bind_some, TrimP_eq big, h1, cond_true, Option.bind_some]
      have hd : x.Reader.Buf.drop ([10] : Bytes).length = s := by rw [hs]; rfl
      rw [hd]
      have hsl : s.length + 1 = x.Reader.Buf.length := by rw [hs]; rfl
      refine ⟨_, rfl, by show s.length ≤ _; omega, by show s.length < _; omega, ?_⟩
      rw [hset, hs, skipP_lf]
      rfl
    | false =>
      rw [gcall_tt (show (true && !false) = true from rfl), HasPrefix_eq, Option.bind_some]
      cases h2 : hasPre x.Reader.Buf [13, 10] with
      | false =>
        right
        refine ⟨_, rfl, ?_⟩
        rw [skipP_no h1 h2]
      | true =>
        left
        obtain ⟨s, hs⟩ := pre_crlf h2
        have h13 : hasPre x.Reader.Buf [13] = true := by rw [hs]; rfl
        show ∃ y, ((strings_TrimPrefix x.Reader.Buf ([13] : Bytes)).bind fun x5 => (strings_TrimPrefix x5 ([10] : Bytes)).bind fun x6 => some (Sum.inl (setBuf x x6))) = some (Sum.inl y) ∧ _
        have hd : x.Reader.Buf.drop ([13] : Bytes).length = 10 :: s := by rw [hs]; rfl
        have hsl : s.length + 2 = x.Reader.Buf.length := by rw [hs]; rfl
        rw [TrimP_eq big, h13, cond_true, Option.bind_some, hd, TrimP_eq (by simp; omega), Option.bind_some, show hasPre (10 :: s) [10] = true from by unfold hasPre; simp [List.isPrefixOf], cond_true]
        refine ⟨_, rfl, by show s.length ≤ _; omega, by show s.length < _; omega, ?_⟩
        show _ = some (setBuf (setBuf x s) (skB (setBuf x s).Reader.Asks (setBuf x s).Reader.Buf))
        rw [hset, hs, skipP_crlf]
        rfl
noncomputable def begJ (j1 : S_wire_reading) : Option (Bool × S_wire_reading) := (head_End ((j1.Reader).Buf)).bind fun x7 =>
  bif ((x7.2) == (3 : Int)) then some (false, j1)
  else bif ((x7.2) != (0 : Int)) then (wire_reading_fail j1 (x7.2)).bind fun x8 => some ((x8.1), (x8.2))
  else (slc ((j1.Reader).Buf) 0 (x7.1)).bind fun x9 => (strings_Cut x9 ([10] : Bytes)).bind fun x10 =>
    bif (j1.Reader).Asks then begT start_Parse j1 (x7.1) x10 else begT start_Status j1 (x7.1) x10
theorem begin_J {w : S_wire_reading} (hb : w.Reader.Buf.length ≤ 50000) : wire_reading_begin w = begJ (setBuf w (skB w.Reader.Asks w.Reader.Buf)) := by
  rw [begin_eq, skip_eq hb, Option.bind_some]; rfl
theorem skB_len (a : Bool) (b : Bytes) : (skB a b).length ≤ b.length := by
  cases a with
  | true => exact skipP_len _ b (Nat.le_refl _)
  | false => exact Nat.le_refl _
end Go.Proofs.YtkfoahoplndelaaGreatDoor
namespace Go.Proofs.YtkfoahoplndelaaGreatDoor
open Go Go.Pm
set_option linter.unusedVariables false
set_option maxRecDepth 100000
def plusM (h : S_Message) (b : Bytes) : S_Message := S_Message.mk h.Start h.Fields (h.Body ++ b)
def doneW (A : Bool) (M : Bytes) (b : Bytes) (h : S_Message) (O : List S_Message) : S_wire_reading := S_wire_reading.mk (S_Reader.mk A M b false zeroM (B 0 0) zeroC 0) (O ++ [h])
def inW (A : Bool) (M : Bytes) (b : Bytes) (h : S_Message) (bd : S_Body) (c : S_Chunked) (O : List S_Message) : S_wire_reading := S_wire_reading.mk (S_Reader.mk A M b true h bd c 0) O
def badW (A : Bool) (M : Bytes) (e : Int) (O : List S_Message) : S_wire_reading := S_wire_reading.mk (S_Reader.mk A M [] false zeroM (B 0 0) zeroC e) O
theorem more_none {A : Bool} {M b : Bytes} {h : S_Message} {c : S_Chunked} {O : List S_Message} (hO : O.length ≤ 1000000) : wire_reading_more (inW A M b h (B 0 0) c O) = some (true, doneW A M b h O) := by
  have e : wire_reading_more (inW A M b h (B 0 0) c O) = (wire_reading_whole (inW A M b h (B 0 0) c O)).bind fun x1 => some (x1.1, x1.2) := rfl
  rw [e, whole_eq hO, Option.bind_some]; rfl
theorem more_size {A : Bool} {M b : Bytes} {h : S_Message} {z : Int} {c : S_Chunked} {O : List S_Message} (n : Nat) (hz : z = (h.Body.length : Int) + n) (hz2 : z ≤ 20000) (hb : b.length ≤ 50000) (hO : O.length ≤ 1000000) :
    wire_reading_more (inW A M b h (B 1 z) c O) = bif decide (n ≤ b.length) then some (true, doneW A M (b.drop n) (plusM h (b.take n)) O) else some (false, inW A M [] (plusM h b) (B 1 z) c O) := by
  unfold wire_reading_more
  show ((slc b 0 (imin (b.length : Int) (IntKind.i64.wrap (z - (h.Body.length : Int))))).bind fun x2 => (cat h.Body x2).bind fun x3 => (slc b (imin (b.length : Int) (IntKind.i64.wrap (z - (h.Body.length : Int)))) (b.length : Int)).bind fun x4 => _) = _
  rw [wrap_i64 (by omega) (by omega)]
  obtain ⟨k, hk, hk1, hk2⟩ : ∃ k : Nat, imin (b.length : Int) (z - (h.Body.length : Int)) = (k : Int) ∧ k ≤ b.length ∧ (bif decide (n ≤ b.length) then k = n else k = b.length) := by
    rcases imin_cases (b.length : Int) (z - (h.Body.length : Int)) with ⟨h1, h2⟩ | ⟨h1, h2⟩
    · rw [h1]
      refine ⟨b.length, rfl, Nat.le_refl _, ?_⟩
      by_cases hd : n ≤ b.length
      · rw [decide_eq_true hd]; show b.length = n; omega
      · rw [decide_eq_false hd]; show b.length = b.length; rfl
    · rw [h1]
      refine ⟨n, by omega, by omega, ?_⟩
      rw [decide_eq_true (by omega)]; rfl
  rw [hk]
  have e1 : slc b 0 (k : Int) = some (b.take k) := by unfold slc; rw [chk_pos (by omega)]; simp
  have e2 : slc b (k : Int) (b.length : Int) = some (b.drop k) := by
    unfold slc
    rw [chk_pos (by omega)]
    show some ((b.drop k).take (b.length - k)) = _
    rw [List.take_of_length_le (by simp)]
  have e3 : cat h.Body (b.take k) = some (h.Body ++ b.take k) := by unfold cat; rw [chk_pos (by unfold maxLen; simp; omega)]
  rw [e1, Option.bind_some, e3, Option.bind_some, e2, Option.bind_some]
  have hlen : (h.Body ++ b.take k).length = h.Body.length + k := by simp; omega
  show (bif (((h.Body ++ b.take k).length : Int) == z) then _ else _) = _
  by_cases hd : n ≤ b.length
  · rw [decide_eq_true hd, cond_true]
    rw [decide_eq_true hd, cond_true] at hk2
    subst hk2
    have e : (((h.Body ++ b.take k).length : Int) == z) = true := by rw [hlen]; simp; omega
    rw [e, cond_true, whole_eq hO, Option.bind_some]
    show some ((bif (((h.Body ++ b.take k).length : Int) == z) then true else false), _) = _
    rw [e]
    rfl
  · rw [decide_eq_false hd, cond_false]
    rw [decide_eq_false hd, cond_false] at hk2
    subst hk2
    have e : (((h.Body ++ b.take b.length).length : Int) == z) = false := by rw [hlen]; simp; omega
    rw [e, cond_false, List.take_length, List.drop_length]
    rfl
theorem map_ne0 {d : Bytes} {n : Nat} {o : Option CR} (h : o ≠ some (.inl 0)) : o.map (bumpN d n) ≠ some (.inl 0) := by
  cases o with
  | none => simp
  | some x =>
    cases x with
    | inl e => exact h
    | inr r => intro h'; cases h'
theorem cRun_ne0 : ∀ (b : Bytes) (c : S_Chunked), cRun c b ≠ some (.inl 0)
  | [], c => by rw [cRun_nil]; intro h; cases h
  | x :: b, c => by
    by_cases h4 : c.Stage = 4
    · rw [cRun_done h4]; intro h; cases h
    by_cases h1 : c.Stage = 1
    · rw [cRun_dat1 h1]; exact map_ne0 (cRun_ne0 b _)
    cases hx : (x == 10) with
    | true =>
      rw [eq_of_beq hx, cRun_lf h1 h4]
      cases lineF c c.Line with
      | none => intro h; cases h
      | some st =>
        rw [Option.bind_some]
        cases hb : (st.bad != (0 : Int)) with
        | true =>
          intro h
          have h : st.bad = 0 := Sum.inl.inj (Option.some.inj h)
          rw [h] at hb; cases hb
        | false => rw [cond_false]; exact map_ne0 (cRun_ne0 b _)
    | false =>
      rw [cRun_one h1 h4 hx]
      cases decide (c.Line.length + 1 > 200) with
      | true => intro h; cases h
      | false => rw [cond_false]; exact map_ne0 (cRun_ne0 b _)
noncomputable def mcR (A : Bool) (M b : Bytes) (h : S_Message) (O : List S_Message) : CR → Bool × S_wire_reading
  | .inl e => (false, badW A M e O)
  | .inr r => bif r.1.Stage == (4 : Int) then (true, doneW A M (b.drop r.2.2) (plusM h r.2.1) O) else (false, inW A M (b.drop r.2.2) (plusM h r.2.1) (B 2 0) r.1 O)
theorem mcR_inr (A : Bool) (M b : Bytes) (h : S_Message) (O : List S_Message) (r : S_Chunked × Bytes × Nat) : mcR A M b h O (.inr r) = bif r.1.Stage == (4 : Int) then (true, doneW A M (b.drop r.2.2) (plusM h r.2.1) O) else (false, inW A M (b.drop r.2.2) (plusM h r.2.1) (B 2 0) r.1 O) := rfl
structure CROk (c : S_Chunked) (b : Bytes) (r : S_Chunked × Bytes × Nat) : Prop where
  ok : ChOk r.1
  took : r.2.2 ≤ b.length
  all : r.1.Stage ≠ 4 → r.2.2 = b.length
  size : r.1.Size = c.Size + (r.2.1.length : Int)
theorem cRun_tot {c : S_Chunked} {b : Bytes} (hc : ChOk c) (hb : b.length ≤ 1000000) : (∃ e, e ≠ 0 ∧ cRun c b = some (.inl e)) ∨ ∃ r, cRun c b = some (.inr r) ∧ CROk c b r := by
  obtain ⟨x, hx, hq⟩ := CFeed_tot hc hb
  rw [CFeed_eq hc hb] at hx
  cases hr : cRun c b with
  | none => rw [hr] at hx; cases hx
  | some y =>
    rw [hr] at hx
    have hx : toF y = x := Option.some.inj hx
    subst hx
    cases y with
    | inl e =>
      rcases hq with hq | hq
      · exact .inl ⟨e, hq, rfl⟩
      · by_cases h0 : e = 0
        · subst h0
          exfalso
          exact absurd hr (cRun_ne0 b c)
        · exact .inl ⟨e, h0, rfl⟩
    | inr r =>
      rcases hq with hq | hq
      · exact absurd rfl hq
      · exact .inr ⟨r, rfl, hq.ok, by have := hq.took.2; exact Int.ofNat_le.1 this, fun h => by have := hq.all h; exact Int.ofNat_inj.1 this, hq.size⟩
theorem more_chunk {A : Bool} {M b : Bytes} {h : S_Message} {c : S_Chunked} {O : List S_Message} (hc : ChOk c) (hs : c.Size = (h.Body.length : Int)) (hb : b.length ≤ 50000) (hO : O.length ≤ 1000000) :
    wire_reading_more (inW A M b h (B 2 0) c O) = (cRun c b).map (mcR A M b h O) := by
  unfold wire_reading_more
  show ((chunk_Feed c b).bind _) = _
  rw [CFeed_eq hc (by omega)]
  rcases cRun_tot (b := b) hc (by omega) with ⟨e, he, hr⟩ | ⟨r, hr, hq⟩
  · rw [hr]
    show ((some (toF (.inl e))).bind _) = _
    rw [Option.bind_some]
    have e1 : ((toF (.inl e)).2.2.2 != (0 : Int)) = true := by show (e != (0 : Int)) = true; simpa using he
    rw [e1, cond_true, fail_eq, Option.bind_some]
    rfl
  · rw [hr]
    show ((some (toF (.inr r))).bind _) = _
    rw [Option.bind_some]
    have e1 : ((toF (.inr r)).2.2.2 != (0 : Int)) = false := rfl
    have hsz := hq.size
    have hso := hq.ok.size
    have hcs := hc.size
    have e3 : cat h.Body r.2.1 = some (h.Body ++ r.2.1) := by unfold cat; rw [chk_pos (by unfold maxLen; omega)]
    have ht := hq.took
    have e2 : slc b (r.2.2 : Int) (b.length : Int) = some (b.drop r.2.2) := by
      unfold slc
      rw [chk_pos (by omega)]
      show some ((b.drop r.2.2).take (b.length - r.2.2)) = _
      rw [List.take_of_length_le (by simp)]
    rw [e1, cond_false]
    show ((cat h.Body r.2.1).bind _) = _
    rw [e3, Option.bind_some]
    show ((slc b (r.2.2 : Int) (b.length : Int)).bind _) = _
    rw [e2, Option.bind_some]
    show (bif (r.1.Stage == (4 : Int)) then _ else _) = some (bif r.1.Stage == (4 : Int) then _ else _)
    cases h4 : (r.1.Stage == (4 : Int)) with
    | true =>
      rw [cond_true, cond_true, whole_eq hO, Option.bind_some]
      show some ((bif r.1.Stage == (4 : Int) then true else false), _) = _
      rw [h4]
      rfl
    | false => rfl
theorem more_end {A : Bool} {M b : Bytes} {h : S_Message} {c : S_Chunked} {O : List S_Message} (hb : b.length ≤ 50000) (hl : h.Body.length ≤ 20000) :
    wire_reading_more (inW A M b h (B 3 0) c O) = some (bif decide (h.Body.length + b.length > 20000) then (false, badW A M 2 O) else (false, inW A M [] (plusM h b) (B 3 0) c O)) := by
  unfold wire_reading_more
  have e3 : cat h.Body b = some (h.Body ++ b) := by unfold cat; rw [chk_pos (by unfold maxLen; omega)]
  show ((cat h.Body b).bind _) = _
  rw [e3, Option.bind_some]
  have hlen : (h.Body ++ b).length = h.Body.length + b.length := by simp
  by_cases hd : h.Body.length + b.length > 20000
  · rw [decide_eq_true (show ((h.Body ++ b).length : Int) > 20000 by omega), decide_eq_true hd, cond_true, fail_eq, Option.bind_some]; rfl
  · rw [decide_eq_false (show ¬ ((h.Body ++ b).length : Int) > 20000 by omega), decide_eq_false hd, cond_false]; rfl
/-! ### One step -/
noncomputable def stepW (w : S_wire_reading) : Option (Bool × S_wire_reading) := bif w.Reader.In then wire_reading_more w else wire_reading_begin w
def outS (r : Bool × S_wire_reading) : S_wire_reading ⊕ (S_Reader × List S_Message × Int) := bif r.1 then .inl r.2 else .inr (r.2.Reader, r.2.out, 0)
theorem body_step (w : S_wire_reading) : wire_Feed_b1 w = (stepW w).map outS := by
  unfold wire_Feed_b1 stepW
  cases w.Reader.In with
  | true =>
    rw [cond_true, cond_true]
    cases wire_reading_more w with
    | none => rfl
    | some r => obtain ⟨r1, r2⟩ := r; cases r1 <;> rfl
  | false =>
    rw [cond_false, cond_false]
    cases wire_reading_begin w with
    | none => rfl
    | some r => obtain ⟨r1, r2⟩ := r; cases r1 <;> rfl
theorem WI.form {a : Bool} {m : Bytes} {w : S_wire_reading} (hw : WI a m w) (hin : w.Reader.In = true) : w = inW a m w.Reader.Buf w.Reader.Head w.Reader.Body w.Reader.Chunk w.out := by
  obtain ⟨⟨A, M, Bf, I, H, Bd, C, E⟩, O⟩ := w
  have h1 := hw.asks; have h2 := hw.meth; have h3 := hw.bad
  simp only at h1 h2 h3 hin
  subst h1 h2 h3 hin
  rfl
theorem WI.out {a : Bool} {m : Bytes} {w : S_wire_reading} (hw : WI a m w) : w.out.length ≤ 1000000 := by have := hw.cnt; omega
end Go.Proofs.YtkfoahoplndelaaGreatDoor
namespace Go.Proofs.YtkfoahoplndelaaGreatDoor
open Go Go.Pm
set_option linter.unusedVariables false
set_option maxRecDepth 100000
theorem step_tot {a : Bool} {m : Bytes} {w : S_wire_reading} (hw : WI a m w) : Tot (stepW w) (MoreQ a m w) := by
  unfold stepW
  cases hin : w.Reader.In with
  | true => exact more_tot hw hin
  | false => exact begin_tot hw hin
theorem loop_step {w : S_wire_reading} {r : Bool × S_wire_reading} (h : stepW w = some r) : loopO wire_Feed_b1 w = bif r.1 then loopO wire_Feed_b1 r.2 else some (r.2.Reader, r.2.out, 0) := by
  rw [loopO_eq, body_step, h]
  obtain ⟨r1, r2⟩ := r
  cases r1 <;> rfl
def rplus (r : S_Reader) (t : Bytes) : S_Reader := S_Reader.mk r.Asks r.Method (r.Buf ++ t) r.In r.Head r.Body r.Chunk r.Bad
abbrev FR : Type := S_Reader × List S_Message × Int
/-! ### What is told -/
theorem begT_out {rd : Bytes → Option (S_Start × Int)} {j : S_wire_reading} {e : Int} {x : Bytes × Bytes × Bool} {r : Bool × S_wire_reading} (h : begT rd j e x = some r) : r.2.out = j.out := by
  have fin : ∀ (v : S_wire_reading) (e : Int), v.out = j.out → ((wire_reading_fail v e).bind fun x => some (x.1, x.2)) = some r → r.2.out = j.out := fun v e he h => by
    rw [fail_eq, Option.bind_some] at h
    cases h
    exact he
  unfold begT at h
  cases h11 : strings_TrimSuffix x.1 [13] with
  | none => rw [h11] at h; cases h
  | some x11 =>
    rw [h11, Option.bind_some] at h
    cases h12 : rd x11 with
    | none => rw [h12] at h; cases h
    | some x12 =>
      rw [h12, Option.bind_some] at h
      cases e12 : (x12.2 != (0 : Int)) with
      | true => rw [e12, cond_true] at h; exact fin _ _ rfl h
      | false =>
        rw [e12, cond_false] at h
        cases h14 : strings_TrimSuffix x.2.1 [10] with
        | none => rw [h14] at h; cases h
        | some x14 =>
          rw [h14, Option.bind_some] at h
          cases h15 : strings_TrimSuffix x14 [13] with
          | none => rw [h15] at h; cases h
          | some x15 =>
            rw [h15, Option.bind_some] at h
            cases h16 : head_Parse x15 with
            | none => rw [h16] at h; cases h
            | some x16 =>
              rw [h16, Option.bind_some] at h
              cases e16 : (x16.2 != (0 : Int)) with
              | true => rw [e16, cond_true] at h; exact fin _ _ rfl h
              | false =>
                rw [e16, cond_false] at h
                generalize wire_body _ = o at h
                cases o with
                | none => cases h
                | some x18 =>
                  rw [Option.bind_some] at h
                  cases e18 : (x18.2 != (0 : Int)) with
                  | true => rw [e18, cond_true] at h; exact fin _ _ rfl h
                  | false =>
                    rw [e18, cond_false] at h
                    generalize slc j.Reader.Buf e _ = o at h
                    cases o with
                    | none => cases h
                    | some x20 =>
                      rw [Option.bind_some] at h
                      generalize (bif (((x12.1).Code) != (0 : Int)) then (decide (((x12.1).Code) < (200 : Int))) else false) = q at h
                      cases q <;> (cases h; rfl)
theorem begJ_out {j : S_wire_reading} {r : Bool × S_wire_reading} (hl : j.Reader.Buf.length ≤ 1000000) (h : begJ j = some r) : r.2.out = j.out := by
  unfold begJ at h
  rw [End_eq hl, Option.bind_some] at h
  cases e3 : ((endB j.Reader.Buf).2 == (3 : Int)) with
  | true => rw [e3, cond_true] at h; cases h; rfl
  | false =>
  rw [e3, cond_false] at h
  cases e0 : ((endB j.Reader.Buf).2 != (0 : Int)) with
  | true =>
    rw [e0, cond_true, fail_eq, Option.bind_some] at h
    cases h
    rfl
  | false =>
    rw [e0, cond_false] at h
    cases h9 : slc j.Reader.Buf 0 (endB j.Reader.Buf).1 with
    | none => rw [h9] at h; cases h
    | some x9 =>
      rw [h9, Option.bind_some] at h
      cases h10 : strings_Cut x9 [10] with
      | none => rw [h10] at h; cases h
      | some x10 =>
        rw [h10, Option.bind_some] at h
        cases ha : j.Reader.Asks with
        | true => rw [ha] at h; exact begT_out h
        | false => rw [ha] at h; exact begT_out h
def pre (o : List S_Message) (w : S_wire_reading) : S_wire_reading := S_wire_reading.mk w.Reader (o ++ w.out)
def preP (o : List S_Message) (r : Bool × S_wire_reading) : Bool × S_wire_reading := (r.1, pre o r.2)
theorem begT_pre {rd : Bytes → Option (S_Start × Int)} {j : S_wire_reading} {e : Int} {x : Bytes × Bytes × Bool} (o : List S_Message) : begT rd (pre o j) e x = (begT rd j e x).map (preP o) := by
  obtain ⟨⟨A, M, Bf, I, H, Bd, C, E⟩, O⟩ := j
  unfold begT pre
  dsimp only
  cases strings_TrimSuffix x.1 [13] with
  | none => rfl
  | some x11 =>
    rw [Option.bind_some, Option.bind_some]
    cases rd x11 with
    | none => rfl
    | some x12 =>
      rw [Option.bind_some, Option.bind_some]
      cases (x12.2 != (0 : Int)) with
      | true => rfl
      | false =>
        rw [cond_false, cond_false]
        cases strings_TrimSuffix x.2.1 [10] with
        | none => rfl
        | some x14 =>
          rw [Option.bind_some, Option.bind_some]
          cases strings_TrimSuffix x14 [13] with
          | none => rfl
          | some x15 =>
            rw [Option.bind_some, Option.bind_some]
            cases head_Parse x15 with
            | none => rfl
            | some x16 =>
              rw [Option.bind_some, Option.bind_some]
              cases (x16.2 != (0 : Int)) with
              | true => rfl
              | false =>
                rw [cond_false, cond_false]
                cases wire_body (S_Reader.mk A M Bf I (S_Message.mk x12.1 x16.1 H.Body) Bd C E) with
                | none => rfl
                | some x18 =>
                  rw [Option.bind_some, Option.bind_some]
                  cases (x18.2 != (0 : Int)) with
                  | true => rfl
                  | false =>
                    rw [cond_false, cond_false]
                    cases slc Bf e (Bf.length : Int) with
                    | none => rfl
                    | some x20 =>
                    rw [Option.bind_some, Option.bind_some]
                    cases (bif (((x12.1).Code) != (0 : Int)) then (decide (((x12.1).Code) < (200 : Int))) else false) <;> rfl
theorem begJ_pre {j : S_wire_reading} (o : List S_Message) : begJ (pre o j) = (begJ j).map (preP o) := by
  unfold begJ
  show ((head_End j.Reader.Buf).bind _) = _
  cases head_End j.Reader.Buf with
  | none => rfl
  | some x7 =>
    rw [Option.bind_some, Option.bind_some]
    cases (x7.2 == (3 : Int)) with
    | true => rfl
    | false =>
      rw [cond_false, cond_false]
      cases (x7.2 != (0 : Int)) with
      | true => rfl
      | false =>
        rw [cond_false, cond_false]
        show ((slc j.Reader.Buf 0 x7.1).bind _) = _
        cases slc j.Reader.Buf 0 x7.1 with
        | none => rfl
        | some x9 =>
          rw [Option.bind_some, Option.bind_some]
          cases strings_Cut x9 [10] with
          | none => rfl
          | some x10 =>
            rw [Option.bind_some, Option.bind_some]
            show (bif j.Reader.Asks then _ else _) = _
            cases j.Reader.Asks with
            | true => exact begT_pre o
            | false => exact begT_pre o
def OutQ (w : S_wire_reading) (r : Bool × S_wire_reading) : Prop := r.2.out = w.out ∨ ∃ h, r.1 = true ∧ r.2.out = w.out ++ [h] ∧ FRow h.Fields
theorem more_pre {a : Bool} {m : Bytes} {w : S_wire_reading} {o : List S_Message} (hw : WI a m w) (hin : w.Reader.In = true) (ho : o.length + w.out.length ≤ 1000000) : wire_reading_more (pre o w) = (wire_reading_more w).map (preP o) ∧ ∀ r, wire_reading_more w = some r → OutQ w r := by
  have hO := hw.out
  have hr := hw.inn hin
  have hf := hw.form hin
  have hb := hw.buf
  generalize w.Reader.Buf = b at hf hb
  generalize w.out = O at hf hO ho
  generalize w.Reader.Head = h at hf hr
  generalize w.Reader.Body = bd at hf hr
  generalize w.Reader.Chunk = c at hf hr
  subst hf
  have hp : pre o (inW a m b h bd c O) = inW a m b h bd c (o ++ O) := rfl
  have hp2 : ∀ (b : Bytes) (h : S_Message) (bd : S_Body) (c : S_Chunked), pre o (inW a m b h bd c O) = inW a m b h bd c (o ++ O) := fun _ _ _ _ => rfl
  have hd : ∀ (b : Bytes) (h : S_Message), pre o (doneW a m b h O) = doneW a m b h (o ++ O) := fun b h => by unfold pre doneW; simp
  have hoo : (o ++ O).length ≤ 1000000 := by simp; omega
  have hdo : ∀ (b : Bytes) (h : S_Message), FRow h.Fields → OutQ (inW a m b h bd c O) (true, doneW a m b h O) := fun b h hf => .inr ⟨h, rfl, rfl, hf⟩
  rw [hp]
  rcases hr.kind.kind with rfl | ⟨z, hz0, hz1, rfl⟩ | rfl | rfl
  · rw [more_none hO, more_none hoo]
    refine ⟨by rw [← hd]; rfl, fun r hrr => ?_⟩
    cases hrr
    exact .inr ⟨h, rfl, rfl, hr.fields⟩
  · have hk1 : (h.Body.length : Int) ≤ z := hr.k1 rfl
    obtain ⟨n, hn⟩ : ∃ n : Nat, z = (h.Body.length : Int) + n := ⟨(z - (h.Body.length : Int)).toNat, by omega⟩
    rw [more_size n hn hz1 hb hO, more_size n hn hz1 hb hoo]
    cases decide (n ≤ b.length) with
    | true =>
      refine ⟨by rw [cond_true, cond_true, ← hd]; rfl, fun r hrr => ?_⟩
      cases hrr
      exact .inr ⟨_, rfl, rfl, hr.fields⟩
    | false =>
      refine ⟨rfl, fun r hrr => ?_⟩
      cases hrr
      exact .inl rfl
  · obtain ⟨g1, g2, g3⟩ := hr.k2 rfl
    rw [more_chunk g1 g3 hb hO, more_chunk g1 g3 hb hoo]
    refine ⟨?_, fun r hrr => ?_⟩
    · rw [Option.map_map]
      congr 1
      funext x
      cases x with
      | inl e => rfl
      | inr q =>
        show mcR a m b h (o ++ O) (.inr q) = preP o (mcR a m b h O (.inr q))
        rw [mcR_inr, mcR_inr]
        cases (q.1.Stage == (4 : Int)) with
        | true => rw [cond_true, cond_true, ← hd]; rfl
        | false => rfl
    · rcases cRun_tot (b := b) g1 (by omega) with ⟨e, he, hc⟩ | ⟨q, hc, hk⟩
      · rw [hc] at hrr
        cases hrr
        exact .inl rfl
      · rw [hc, Option.map_some, mcR_inr] at hrr
        cases h4 : (q.1.Stage == (4 : Int)) with
        | true => rw [h4, cond_true] at hrr; cases hrr; exact .inr ⟨_, rfl, rfl, hr.fields⟩
        | false => rw [h4, cond_false] at hrr; cases hrr; exact .inl rfl
  · have hk3 := hr.k3 rfl
    rw [more_end hb hk3, more_end hb hk3]
    cases decide (h.Body.length + b.length > 20000) with
    | true => exact ⟨rfl, fun r hrr => by cases hrr; exact .inl rfl⟩
    | false => exact ⟨rfl, fun r hrr => by cases hrr; exact .inl rfl⟩
theorem step_pre {a : Bool} {m : Bytes} {w : S_wire_reading} {o : List S_Message} (hw : WI a m w) (ho : o.length + w.out.length ≤ 1000000) : stepW (pre o w) = (stepW w).map (preP o) ∧ ∀ r, stepW w = some r → OutQ w r := by
  unfold stepW
  show (bif w.Reader.In then _ else _) = _ ∧ _
  cases hin : w.Reader.In with
  | true => exact more_pre hw hin ho
  | false =>
    rw [cond_false, cond_false]
    have hb := hw.buf
    rw [begin_J hb, begin_J (w := pre o w) hb]
    have hsl := skB_len w.Reader.Asks w.Reader.Buf
    exact ⟨begJ_pre (j := setBuf w (skB w.Reader.Asks w.Reader.Buf)) o, fun r hr => .inl (begJ_out (j := setBuf w (skB w.Reader.Asks w.Reader.Buf)) (by show (skB w.Reader.Asks w.Reader.Buf).length ≤ _; omega) hr)⟩
structure FeedOk (a : Bool) (m : Bytes) (r : FR) : Prop where
  ok : XOk a m r.1
  err : r.2.2 = 0
  len : r.2.1.length ≤ 1000000
  rows : ∀ h, h ∈ r.2.1 → FRow h.Fields
theorem feed_all {a : Bool} {m : Bytes} {w : S_wire_reading} (hw : WI a m w) (hr : ∀ h, h ∈ w.out → FRow h.Fields) : Tot (loopO wire_Feed_b1 w) (FeedOk a m) := by
  refine loop_tot mu (fun x => WI a m x ∧ ∀ h, h ∈ x.out → FRow h.Fields) _ (fun x hx => ?_) w ⟨hw, hr⟩
  obtain ⟨hx, hrows⟩ := hx
  obtain ⟨r, hr, hq1, hq2⟩ := step_tot hx
  obtain ⟨_, hout⟩ := step_pre (o := []) hx (by have := hx.out; simpa using this)
  rw [body_step, hr]
  have hout := hout r hr
  have rows : ∀ h, h ∈ r.2.out → FRow h.Fields := by
    rcases hout with h | ⟨h, _, h2, h3⟩
    · rw [h]; exact hrows
    · rw [h2]
      intro y hy
      rcases List.mem_append.1 hy with hy | hy
      · exact hrows y hy
      · rw [List.mem_singleton.1 hy]; exact h3
  cases h1 : r.1 with
  | true =>
    left
    refine ⟨r.2, by rw [Option.map_some]; unfold outS; rw [h1]; rfl, ⟨(hq1 h1).1, rows⟩, (hq1 h1).2⟩
  | false =>
    right
    refine ⟨(r.2.Reader, r.2.out, 0), by rw [Option.map_some]; unfold outS; rw [h1]; rfl, hq2 h1, rfl, ?_, rows⟩
    rcases hout with h | ⟨h, h2, _⟩
    · show r.2.out.length ≤ _; rw [h]; exact hx.out
    · rw [h1] at h2; cases h2
theorem XOk.wi {a : Bool} {m s : Bytes} {r : S_Reader} (hr : XOk a m r) (h0 : r.Bad = 0) (hs : s.length ≤ 40000) : WI a m (S_wire_reading.mk (rplus r s) []) := by
  have hb := hr.buf
  refine ⟨hr.asks.1, hr.asks.2, h0, by show (r.Buf ++ s).length ≤ _; simp; omega, ?_, fun hin => ?_, fun hin => ?_⟩
  · show ([] : List S_Message).length + (2 * (r.Buf ++ s).length + (bif r.In then 1 else 0)) ≤ 1000000
    cases r.In <;> simp <;> omega
  · have hin : r.In = false := hin
    show r.Head = zeroM ∧ r.Body = B 0 0 ∧ r.Chunk = zeroC
    obtain ⟨A, M, Bf, I, H, Bd, C, E⟩ := r
    simp only at hin h0 ⊢
    subst hin h0
    cases hr with
    | bad e he => exact absurd rfl he
    | out => exact ⟨rfl, rfl, rfl⟩
  · have hin : r.In = true := hin
    show RIn a m r.Head r.Body r.Chunk
    obtain ⟨A, M, Bf, I, H, Bd, C, E⟩ := r
    simp only at hin h0 ⊢
    subst hin h0
    cases hr with
    | inn _ _ _ hr => exact hr
theorem wfeed_eq {a : Bool} {m : Bytes} {r : S_Reader} {s : Bytes} (hr : XOk a m r) (h0 : r.Bad = 0) (hs : s.length ≤ 40000) : wire_Feed r s = loopO wire_Feed_b1 (S_wire_reading.mk (rplus r s) []) := by
  have hb := hr.buf
  unfold wire_Feed
  rw [hr.right, Option.bind_some, show (!true) = false from rfl, cond_false, h0, show ((0 : Int) != 0) = false from rfl, cond_false]
  have hc : cat r.Buf s = some (r.Buf ++ s) := by unfold cat; rw [chk_pos (by unfold maxLen; simp; omega)]
  rw [hc, Option.bind_some]
  unfold rplus
  rw [h0]
theorem feed_ok {a : Bool} {m s : Bytes} {r : S_Reader} (hr : XOk a m r) (hs : s.length ≤ 40000) : Tot (wire_Feed r s) (FeedOk a m) := by
  by_cases h0 : r.Bad = 0
  · rw [wfeed_eq hr h0 hs]
    exact feed_all (hr.wi h0 hs) (fun h hh => by cases hh)
  · rw [feed_bad (by rw [hr.asks.1, hr.asks.2]; exact hr) h0]
    exact .now ⟨hr, rfl, Nat.zero_le _, fun h hh => by cases hh⟩
end Go.Proofs.YtkfoahoplndelaaGreatDoor
namespace Go.Proofs.YtkfoahoplndelaaGreatDoor
open Go Go.Pm
set_option linter.unusedVariables false
set_option maxRecDepth 100000
def newR (a : Bool) (m : Bytes) : S_Reader := S_Reader.mk a m [] false zeroM (B 0 0) zeroC 0
theorem newR_ok (a : Bool) (m : Bytes) : XOk a m (newR a m) := .out [] (Nat.zero_le _)
end Go.Proofs.YtkfoahoplndelaaGreatDoor
namespace Go.Proofs.YtkfoahoplndelaaGreatDoor
open Go Go.Pm
set_option linter.unusedVariables false
set_option maxRecDepth 100000
theorem TrimS_hit {s : Bytes} (c : UInt8) (hs : s.length + 1 ≤ maxLen) : strings_TrimSuffix (s ++ [c]) [c] = some s := by
  have ew : IntKind.i64.wrap (((s ++ [c]).length : Int) - ((([c] : Bytes).length : Nat) : Int)) = (s.length : Int) := by
    rw [wrap_i64 (by simp <;> omega) (by unfold maxLen at hs; simp <;> omega)]
    simp
  have hge : decide (((s ++ [c]).length : Int) ≥ ((([c] : Bytes).length : Nat) : Int)) = true := decide_eq_true (by simp; omega)
  have h1 : stringslite_HasSuffix (s ++ [c]) [c] = some true := by
    unfold stringslite_HasSuffix
    have e : gslc (decide (((s ++ [c]).length : Int) ≥ ((([c] : Bytes).length : Nat) : Int))) (s ++ [c]) (IntKind.i64.wrap (((s ++ [c]).length : Int) - ((([c] : Bytes).length : Nat) : Int))) ((s ++ [c]).length : Int) = some [c] := by
      unfold gslc
      rw [ew, chk_pos (fun _ => ⟨by omega, by simp; omega, Int.le_refl _⟩)]
      simp
    rw [e, Option.bind_some, hge]
    simp
  have h2 : stringslite_TrimSuffix (s ++ [c]) [c] = some s := by
    unfold stringslite_TrimSuffix
    rw [h1, Option.bind_some, cond_true, ew]
    have e : slc (s ++ [c]) 0 (s.length : Int) = some s := by
      unfold slc
      rw [chk_pos (by simp; omega)]
      simp
    rw [e]; rfl
  unfold strings_TrimSuffix
  rw [h2]; rfl
theorem trimR_hit {s : Bytes} (hs : s.length + 1 ≤ maxLen) : trimR (s ++ [13]) = s := by
  unfold trimR
  rw [TrimS_hit 13 hs]; rfl
theorem begJ_ok {A : Bool} {M b l r l' r1 r2 : Bytes} {O : List S_Message} {e : Nat} {f : Bool} {s : S_Start} {fs : List S_Field} {bd : S_Body}
    (hE : head_End b = some ((e : Int), 0)) (he : e ≤ b.length) (hC : strings_Cut (b.take e) [10] = some (l, r, f)) (h1 : strings_TrimSuffix l [13] = some l')
    (hr : (bif A then start_Parse l' else start_Status l') = some (s, 0)) (h2 : strings_TrimSuffix r [10] = some r1) (h3 : strings_TrimSuffix r1 [13] = some r2)
    (h4 : head_Parse r2 = some (fs, 0)) (h5 : bodyB A M (S_Message.mk s fs []) = (bd, 0)) (hs : SSmall s) (hf : FRow fs)
    (hcode : (bif (s.Code != (0 : Int)) then (decide (s.Code < (200 : Int))) else false) = false) :
    begJ (S_wire_reading.mk (S_Reader.mk A M b false zeroM (B 0 0) zeroC 0) O) = some (true, inW A M (b.drop e) (S_Message.mk s fs []) bd zeroC O) := by
  have key : ∀ rd : Bytes → Option (S_Start × Int), rd l' = some (s, 0) → begT rd (S_wire_reading.mk (S_Reader.mk A M b false zeroM (B 0 0) zeroC 0) O) (e : Int) (l, r, f) = some (true, inW A M (b.drop e) (S_Message.mk s fs []) bd zeroC O) := fun rd hrd => by
    unfold begT
    dsimp only
    rw [h1, Option.bind_some, hrd, Option.bind_some, show (((s, (0 : Int)) : S_Start × Int).2 != (0 : Int)) = false from rfl, cond_false, h2, Option.bind_some, h3, Option.bind_some, h4, Option.bind_some, show (((fs, (0 : Int)) : List S_Field × Int).2 != (0 : Int)) = false from rfl, cond_false]
    have hb : wire_body (S_Reader.mk A M b false (S_Message.mk s fs []) (B 0 0) zeroC 0) = some (bd, 0) := by rw [wbody_eq hs hf]; exact congrArg some h5
    show ((wire_body (S_Reader.mk A M b false (S_Message.mk s fs []) (B 0 0) zeroC 0)).bind _) = _
    rw [hb, Option.bind_some, show (((bd, (0 : Int)) : S_Body × Int).2 != (0 : Int)) = false from rfl, cond_false]
    have s1 : slc b (e : Int) (b.length : Int) = some (b.drop e) := by
      unfold slc
      rw [chk_pos (by omega)]
      show some ((b.drop e).take (b.length - e)) = _
      rw [List.take_of_length_le (by simp)]
    rw [s1, Option.bind_some, hcode]
    rfl
  unfold begJ
  dsimp only
  rw [hE, Option.bind_some, show (((e : Int), (0 : Int)).2 == (3 : Int)) = false from rfl, cond_false, show (((e : Int), (0 : Int)).2 != (0 : Int)) = false from rfl, cond_false]
  have s0 : slc b 0 (e : Int) = some (b.take e) := by unfold slc; rw [chk_pos (by omega)]; simp
  rw [s0, Option.bind_some, hC, Option.bind_some]
  cases A with
  | true => exact key start_Parse hr
  | false => exact key start_Status hr
theorem cut_at {u r : Bytes} (c : UInt8) (hu : u.contains c = false) : cutC c (u ++ c :: r) = (u, r, true) := by
  induction u with
  | nil => unfold cutC; simp
  | cons x u ih =>
    rw [List.contains_cons, Bool.or_eq_false_iff] at hu
    have hx : (x == c) = false := by
      cases h : (x == c) with
      | false => rfl
      | true => rw [eq_of_beq h] at hu; simp at hu
    show cutC c (x :: (u ++ c :: r)) = _
    unfold cutC
    rw [hx, ih hu.2]; rfl
def okL : Bytes := [72, 84, 84, 80, 47, 49, 46, 48, 32, 50, 48, 48, 32, 79, 75]
def wS : S_Start := S_Start.mk [] [] 200 [79, 75] 0
def getB : Bytes := [71, 69, 84]
theorem ok_line : start_Status okL = some (wS, 0) := by
  have hp : printB wS = okL := by kernel_rfl
  rw [Status_eq (by decide), ← hp, (print1 (s := wS) (by kernel_rfl) (by decide)).2]
theorem wS_small : SSmall wS := ⟨by decide, by decide, by decide⟩
theorem stepW_in (A : Bool) (M b : Bytes) (h : S_Message) (bd : S_Body) (c : S_Chunked) (O : List S_Message) : stepW (inW A M b h bd c O) = wire_reading_more (inW A M b h bd c O) := rfl
theorem feed_head {b h x : Bytes} {fs : List S_Field} {bd : S_Body} (hb : b = h ++ x) (hbl : b.length ≤ 30000) (hE : endB h = (((h.length : Nat) : Int), 0)) {r r1 : Bytes} (hC : strings_Cut h [10] = some (okL ++ r1, r, true)) (h1 : strings_TrimSuffix (okL ++ r1) [13] = some okL)
    {q q2 : Bytes} (h2 : strings_TrimSuffix r [10] = some q) (h3 : strings_TrimSuffix q [13] = some q2) (h4 : head_Parse q2 = some (fs, 0)) (h5 : bodyB false getB (S_Message.mk wS fs []) = (bd, 0)) (hf : FRow fs) :
    stepW (S_wire_reading.mk (rplus (newR false getB) b) []) = some (true, inW false getB x (S_Message.mk wS fs []) bd zeroC []) := by
  have hl : h.length ≤ b.length := by rw [hb]; simp
  have hE2 : head_End b = some (((h.length : Nat) : Int), 0) := by
    rw [End_eq (by omega), hb, endB_append (by rw [hE]; simp), hE]
  have e0 : stepW (S_wire_reading.mk (rplus (newR false getB) b) []) = wire_reading_begin (S_wire_reading.mk (rplus (newR false getB) b) []) := rfl
  rw [e0, begin_J (by show b.length ≤ _; omega)]
  show begJ (S_wire_reading.mk (S_Reader.mk false getB b false zeroM (B 0 0) zeroC 0) []) = _
  have ht : b.take h.length = h := by rw [hb]; simp
  have hd : b.drop h.length = x := by rw [hb]; simp
  rw [begJ_ok (A := false) (s := wS) hE2 hl (by rw [ht]; exact hC) h1 ok_line h2 h3 h4 h5 wS_small hf (by rfl), hd]
def endH : Bytes := okL ++ [13, 10, 13, 10]
theorem end_head : endB endH = (((endH.length : Nat) : Int), 0) := by
  have h : head_End endH = some (19, 0) := by kernel_rfl
  rw [End_eq (by decide)] at h
  exact Option.some.inj h
theorem nilRow : FRow [] := ⟨by simp, fun f hf => by cases hf⟩
theorem ends_one {x : Bytes} (hx : x.length ≤ 1000) : wire_Feed (newR false getB) (endH ++ x) = some ((inW false getB [] (S_Message.mk wS [] x) (B 3 0) zeroC []).Reader, [], 0) := by
  have hl : (endH ++ x).length ≤ 30000 := by rw [List.length_append]; have : endH.length = 19 := rfl; omega
  rw [wfeed_eq (newR_ok _ _) rfl (by omega)]
  have hs := feed_head (h := endH) (x := x) (fs := []) (bd := B 3 0) (r := [13, 10]) (r1 := [13]) (q := [13]) (q2 := []) rfl hl end_head (by rw [Cut_one 10 (by decide)]; kernel_rfl) (by kernel_rfl) (by kernel_rfl) (by kernel_rfl) (by kernel_rfl) (by kernel_rfl) nilRow
  rw [loop_step hs, cond_true]
  have hm : stepW (inW false getB x (S_Message.mk wS [] []) (B 3 0) zeroC []) = some (false, inW false getB [] (S_Message.mk wS [] x) (B 3 0) zeroC []) := by
    rw [stepW_in, more_end (by omega) (by simp), decide_eq_false (by simp; omega)]
    rfl
  rw [loop_step hm]
  rfl
/-! ### A head that tells its length -/
def lenH (d : Bytes) : Bytes := okL ++ [13] ++ 10 :: (nCL ++ 58 :: 32 :: d ++ [13] ++ 10 :: ([13] ++ 10 :: []))
theorem dig_no (d : Bytes) (h : d.all isDig = true) (c : UInt8) (hc : isDig c = false) : d.contains c = false := by
  induction d with
  | nil => rfl
  | cons x d ih =>
    rw [List.all_cons, Bool.and_eq_true] at h
    rw [List.contains_cons, ih h.2]
    cases hx : (c == x) with
    | false => rfl
    | true => rw [eq_of_beq hx, h.1] at hc; cases hc
theorem contains_append (s t : Bytes) (c : UInt8) : (s ++ t).contains c = (s.contains c || t.contains c) := by
  induction s with
  | nil => simp
  | cons x s ih => rw [List.cons_append, List.contains_cons, List.contains_cons, ih, Bool.or_assoc]
theorem line_no {d : Bytes} (h : d.all isDig = true) : (nCL ++ 58 :: 32 :: d).contains 10 = false := by
  have : nCL ++ 58 :: 32 :: d = (nCL ++ [58, 32]) ++ d := by simp
  rw [this, contains_append, dig_no d h 10 (by kernel_rfl)]
  rfl
theorem rows_two {d : Bytes} (h : d.all isDig = true) (hd : d.length ≤ 5) : rowsA [] 0 (lenH d) = [(okL, 17), (nCL ++ 58 :: 32 :: d, ((35 + d.length : Nat) : Int)), ([], (((lenH d).length : Nat) : Int))] := by
  have t1 : trimR (okL ++ [13]) = okL := trimR_hit (by decide)
  have hlen : (nCL ++ 58 :: 32 :: d).length = 16 + d.length := by simp [nCL]; omega
  have t2 : trimR ((nCL ++ 58 :: 32 :: d) ++ [13]) = nCL ++ 58 :: 32 :: d := trimR_hit (by rw [hlen]; unfold maxLen; omega)
  have t3 : trimR [13] = [] := by unfold trimR; rw [show strings_TrimSuffix [13] [13] = some [] by kernel_rfl]; rfl
  have n2 : ((nCL ++ 58 :: 32 :: d) ++ [13]).contains 10 = false := by rw [contains_append, line_no h]; rfl
  unfold lenH
  rw [rowsA_line (okL ++ [13]) [] 0 _ (by kernel_rfl), rowsA_cons, show ((10 : UInt8) == 10) = true from rfl, cond_true]
  have e1 : nCL ++ 58 :: 32 :: d ++ [13] ++ 10 :: ([13] ++ 10 :: []) = (nCL ++ 58 :: 32 :: d ++ [13]) ++ 10 :: ([13] ++ 10 :: []) := rfl
  rw [e1, rowsA_line _ [] _ _ n2, rowsA_cons, show ((10 : UInt8) == 10) = true from rfl, cond_true, rowsA_line [13] [] _ _ (by rfl), rowsA_cons, show ((10 : UInt8) == 10) = true from rfl, cond_true, rowsA_nil]
  simp only [List.nil_append]
  rw [t1, t2, t3]
  have hL : okL.length = 15 := rfl
  simp only [List.length_append, hlen, hL, List.length_cons, List.length_nil]
  congr 1
  congr 1
  · congr 1; congr 1; omega
  · congr 1; congr 1; congr 1; omega
theorem len_head {d : Bytes} (h : d.all isDig = true) (hd : d.length ≤ 5) : endB (lenH d) = ((((lenH d).length : Nat) : Int), 0) := by
  have hl : (lenH d).length ≤ 100 := by unfold lenH; simp [nCL, okL]; omega
  unfold endB
  rw [rows_two h hd, find_cons, decide_eq_false (by omega), cond_false, show (okL == []) = false from rfl, cond_false, find_cons, decide_eq_false (by omega), cond_false]
  rw [show (nCL ++ 58 :: 32 :: d == []) = false from rfl, cond_false, find_cons, decide_eq_false (by omega), cond_false]
  rfl
theorem parse_one {d : Bytes} (h : d.all isDig = true) (hd : d.length ≤ 5) : head_Parse (nCL ++ 58 :: 32 :: d ++ [13] ++ [10]) = some ([S_Field.mk nCL d], 0) := by
  have hlen : (nCL ++ 58 :: 32 :: d).length = 16 + d.length := by simp [nCL]; omega
  have n2 : ((nCL ++ 58 :: 32 :: d) ++ [13]).contains 10 = false := by rw [contains_append, line_no h]; rfl
  have t2 : trimR ((nCL ++ 58 :: 32 :: d) ++ [13]) = nCL ++ 58 :: 32 :: d := trimR_hit (by rw [hlen]; unfold maxLen; omega)
  generalize hs : nCL ++ 58 :: 32 :: d ++ [13] ++ [10] = s
  have hsl : s.length = 18 + d.length := by rw [← hs]; simp [nCL]; omega
  have hrows : head_rows s = some [(nCL ++ 58 :: 32 :: d, ((s.length : Nat) : Int))] := by
    unfold head_rows
    have := items_eq (s := s) (by omega) (s.length + 1) 0 (Nat.zero_le _) (by omega)
    rw [show head_items s (s.length + 1) 0 = some (rowsA [] 0 (s.drop 0)) from this, List.drop_zero, hsl, ← hs, rowsA_line _ [] _ _ n2, rowsA_cons, show ((10 : UInt8) == 10) = true from rfl, cond_true, rowsA_nil, List.nil_append, t2]
    congr 1
    congr 1
    congr 1
    congr 1
    simp [nCL]; omega
  have hne : (s == ([] : Bytes)) = false := by
    cases he : (s == ([] : Bytes)) with
    | false => rfl
    | true => rw [eq_of_beq he, List.length_nil] at hsl; omega
  have hlast : s[s.length - 1]? = some 10 := by rw [← hs]; simp
  unfold head_Parse
  rw [decide_eq_false (by omega), cond_false, hne]
  have hg : gidx (!false) s (IntKind.i64.wrap ((s.length : Int) - 1)) = some 10 := by
    show gidx true s _ = _
    rw [gidx_tt rfl]
    have e : IntKind.i64.wrap ((s.length : Int) - 1) = ((s.length - 1 : Nat) : Int) := by rw [wrap_i64 (by omega) (by omega)]; omega
    rw [e]
    exact idx_at hlast
  rw [hg, Option.bind_some]
  show (bif (((10 : UInt8).toNat : Int) != 10) then _ else _) = _
  rw [show ((((10 : UInt8).toNat : Nat) : Int) != 10) = false from rfl, cond_false, hrows, Option.bind_some]
  unfold head_fold
  have hcut : cutC 58 (nCL ++ 58 :: (32 :: d)) = (nCL, 32 :: d, true) := cut_at 58 (by kernel_rfl)
  rw [Cut_one 58 (by rw [hlen]; unfold maxLen; omega), hcut, Option.bind_some]
  have htr : trim (32 :: d) = d := by
    have hb : d.any blank = false := any_none (fun b h => (dig_plain b h).1) h
    rcases d.eq_nil_or_concat with rfl | ⟨d', x, rfl⟩
    · rfl
    · rw [List.concat_eq_append] at *
      have hx : blank x = false := by simp at hb; simpa using hb.2
      unfold trim
      have h2 : blank x = false := hx
      rw [← List.cons_append, dropR_snoc, h2, cond_false, List.cons_append]
      have : dropL blank (32 :: (d' ++ [x])) = dropL blank (d' ++ [x]) := rfl
      rw [this]
      unfold dropL
      exact dropWhile_none hb
  rw [Trim_eq (by simp; unfold maxLen; omega), Option.bind_some]
  show ((table_Add [] nCL (trim (32 :: d))).bind _) = _
  have hfs : FSmall (S_Field.mk nCL d) := ⟨by unfold maxLen; simp [nCL], by unfold maxLen; simp; omega⟩
  rw [htr, Add_eq nilRow hfs, Option.bind_some]
  have hmay : mayB (S_Field.mk nCL d) = true := by
    unfold mayB
    show (tokenB nCL && ((trim d == d) && (decide (d.length ≤ 1000) && !(d.any ctlB)))) = true
    rw [trim_none (any_none (fun b h => (dig_plain b h).1) h), any_none (fun b h => (dig_plain b h).2) h, show tokenB nCL = true by kernel_rfl, decide_eq_true (by omega)]
    simp
  have hadd : addB [] (S_Field.mk nCL d) = ([S_Field.mk nCL d], 0) := by
    unfold addB
    rw [hmay]; rfl
  rw [hadd]
  rfl
theorem len_body {n : Nat} (hn : n ≤ 20000) : bodyB false getB (S_Message.mk wS [S_Field.mk nCL (Lib.decDigits n)] []) = (B 1 (n : Int), 0) := by
  have hw : withB [] (B 1 (n : Int)) = ([S_Field.mk nCL (Lib.decDigits n)], 0) := by
    have hm := fld_may (b := B 1 (n : Int)) (by show (n : Int) ≤ 20000; omega)
    have hfl : fld (B 1 (n : Int)) = S_Field.mk nCL (Lib.decDigits n) := rfl
    unfold withB
    rw [show decide ((B 1 (n : Int)).Size < 0) = false from decide_eq_false (by show ¬ (n : Int) < 0; omega), show decide ((B 1 (n : Int)).Size > 20000) = false from decide_eq_false (by show ¬ (n : Int) > 20000; omega)]
    show addB (rest []) (fld (B 1 (n : Int))) = _
    unfold addB
    rw [hm]
    rfl
  have hmade : Made [] (B 1 (n : Int)) [S_Field.mk nCL (Lib.decDigits n)] := by
    rcases withB_cases [] (B 1 (n : Int)) with ⟨h, _⟩ | ⟨_, h⟩
    · rw [hw] at h; cases h
    · rw [hw] at h; exact h
  have hsay := made_say hmade 0 (B 3 0) rfl
  show ansB wS [S_Field.mk nCL (Lib.decDigits n)] getB = _
  unfold ansB
  rw [hmade.right, show startB wS = true by kernel_rfl]
  show sayB 0 [S_Field.mk nCL (Lib.decDigits n)] (B 3 0) = _
  rw [hsay]; rfl
theorem ends_two {x : Bytes} (hx : x.length ≤ 1000) {n : Nat} (hn : x.length < n) (hn2 : n ≤ 20000) : wire_Feed (newR false getB) (lenH (Lib.decDigits n) ++ x) = some ((inW false getB [] (S_Message.mk wS [S_Field.mk nCL (Lib.decDigits n)] x) (B 1 (n : Int)) zeroC []).Reader, [], 0) := by
  have ha := digits_all n
  have hd := digits_le (n := n) hn2
  have hlh : (lenH (Lib.decDigits n)).length ≤ 100 := by unfold lenH; simp [nCL, okL]; omega
  have hl : (lenH (Lib.decDigits n) ++ x).length ≤ 30000 := by rw [List.length_append]; omega
  rw [wfeed_eq (newR_ok _ _) rfl (by omega)]
  have hlen : (nCL ++ 58 :: 32 :: Lib.decDigits n).length = 16 + (Lib.decDigits n).length := by simp [nCL]; omega
  have hC : strings_Cut (lenH (Lib.decDigits n)) [10] = some (okL ++ [13], nCL ++ 58 :: 32 :: Lib.decDigits n ++ [13] ++ [10] ++ [13] ++ [10], true) := by
    rw [Cut_one 10 (by unfold maxLen; omega)]
    unfold lenH
    rw [cut_at 10 (u := okL ++ [13]) (by kernel_rfl)]
    simp
  have hrow : FRow [S_Field.mk nCL (Lib.decDigits n)] := ⟨by simp, fun f hf => by rw [List.mem_singleton.1 hf]; exact ⟨by simp [nCL], by show (Lib.decDigits n).length ≤ _; omega⟩⟩
  have hs := feed_head (h := lenH (Lib.decDigits n)) (x := x) (fs := [S_Field.mk nCL (Lib.decDigits n)]) (bd := B 1 (n : Int)) (r1 := [13]) rfl hl (len_head ha hd) hC (TrimS_hit 13 (by decide)) (TrimS_hit 10 (by unfold maxLen; simp [nCL]; omega)) (TrimS_hit 13 (by unfold maxLen; simp [nCL]; omega)) (parse_one ha hd) (len_body hn2) hrow
  rw [loop_step hs, cond_true]
  have hm : stepW (inW false getB x (S_Message.mk wS [S_Field.mk nCL (Lib.decDigits n)] []) (B 1 (n : Int)) zeroC []) = some (false, inW false getB [] (S_Message.mk wS [S_Field.mk nCL (Lib.decDigits n)] x) (B 1 (n : Int)) zeroC []) := by
    rw [stepW_in, more_size n (by simp) (by omega) (by omega) (by simp), decide_eq_false (by omega)]
    rfl
  rw [loop_step hm]
  rfl
theorem u8_dig (k : Nat) (h : k < 10) : u8 (IntKind.u8.wrap (IntKind.i64.wrap ((48 : Int) + (k : Int)))) = UInt8.ofNat (48 + k) := by
  have : (List.range 10).all (fun k => u8 (IntKind.u8.wrap (IntKind.i64.wrap ((48 : Int) + (k : Int)))) == UInt8.ofNat (48 + k)) = true := by kernel_rfl
  exact eq_of_beq (List.all_eq_true.1 this k (List.mem_range.2 h))
theorem num_loop {n : Nat} (h0 : 0 < n) (hn : n ≤ 20000) : loopO intarsialaw10_WireEnds_b1 (([] : Bytes), (n : Int)) = some (Lib.decDigits n) := by
  have key := loop_opt (body := intarsialaw10_WireEnds_b1) (fun x : Bytes × Int => x.2.toNat) (fun x => ∃ k : Nat, x.2 = (k : Int) ∧ x.1.length + k ≤ 30000) (fun x => some ((bif x.2 == 0 then [] else Lib.decDigits x.2.toNat) ++ x.1)) (fun x hx => ?_) (([] : Bytes), (n : Int)) ⟨n, rfl, by simp; omega⟩
  · rw [key]
    show some ((bif ((n : Int) == 0) then [] else Lib.decDigits ((n : Nat) : Int).toNat) ++ ([] : Bytes)) = _
    rw [show ((n : Int) == 0) = false by simp; omega, cond_false, List.append_nil, Int.toNat_natCast]
  obtain ⟨acc, z⟩ := x
  obtain ⟨k, hk, hl⟩ := hx
  simp only at hk hl
  subst hk
  unfold intarsialaw10_WireEnds_b1
  dsimp only
  by_cases hz : k = 0
  · subst hz
    right
    exact ⟨_, rfl, rfl⟩
  · left
    have e1 : ((k : Nat) : Int).tmod (10 : Int) = ((k % 10 : Nat) : Int) := rfl
    have e2 : ((k : Nat) : Int).tdiv (10 : Int) = ((k / 10 : Nat) : Int) := rfl
    rw [decide_eq_true (show ((k : Nat) : Int) > 0 by omega), cond_true, e1, e2, chk_pos ⟨rfl, wrap_i64 (by omega) (by omega)⟩, u8_dig _ (by omega)]
    have hc : cat ([UInt8.ofNat (48 + k % 10)] : List UInt8) acc = some (UInt8.ofNat (48 + k % 10) :: acc) := by unfold cat; rw [chk_pos (by unfold maxLen; simp; omega)]; rfl
    rw [hc, Option.bind_some, chk_pos (show ((10 : Int) == 0) = false from rfl), wrap_i64 (by omega) (by omega)]
    refine ⟨_, rfl, ⟨k / 10, rfl, by simp; omega⟩, by show ((k / 10 : Nat) : Int).toNat < ((k : Nat) : Int).toNat; omega, ?_⟩
    show some ((bif ((k : Int) == 0) then [] else Lib.decDigits ((k : Nat) : Int).toNat) ++ acc) = some ((bif (((k / 10 : Nat) : Int) == 0) then [] else Lib.decDigits ((k / 10 : Nat) : Int).toNat) ++ (UInt8.ofNat (48 + k % 10) :: acc))
    rw [show ((k : Int) == 0) = false by simp; omega, cond_false, Int.toNat_natCast, Int.toNat_natCast]
    by_cases h10 : k < 10
    · rw [digits_lo h10]
      have e3 : k / 10 = 0 := by omega
      have e4 : k % 10 = k := by omega
      rw [e3, e4]; rfl
    · rw [digits_hi h10, show (((k / 10 : Nat) : Int) == 0) = false by simp; omega, cond_false]
      simp
theorem WireEnds_true (a0 : Bytes) (a1 : Int) : intarsialaw10_WireEnds a0 a1 = some true := by
  unfold intarsialaw10_WireEnds
  rw [slc_cut a0 1000 (K := 1000) rfl, Option.bind_some]
  have hx : (a0.take 1000).length ≤ 1000 := by simp; omega
  generalize a0.take 1000 = x at *
  have hnew : wire_New false ([71, 69, 84] : Bytes) = some (newR false getB) := rfl
  have hcat1 : cat ([72, 84, 84, 80, 47, 49, 46, 48, 32, 50, 48, 48, 32, 79, 75, 13, 10, 13, 10] : Bytes) x = some (endH ++ x) := by unfold cat; rw [chk_pos (by unfold maxLen; simp; omega)]; rfl
  have hlE : (endH ++ x).length ≤ 40000 := by rw [List.length_append]; have : endH.length = 19 := rfl; omega
  rw [hnew, Option.bind_some, hcat1, Option.bind_some, ends_one hx, Option.bind_some]
  obtain ⟨y1, hy1, ok1⟩ := feed_ok (newR_ok false getB) hlE
  rw [ends_one hx] at hy1
  cases hy1
  have hclose : wire_Close (inW false getB [] (S_Message.mk wS [] x) (B 3 0) zeroC []).Reader = some ([S_Message.mk wS [] x], 0) := by
    unfold wire_Close
    rw [show wire_Right _ = some true from ok1.ok.right, Option.bind_some]
    rfl
  show ((wire_Close (inW false getB [] (S_Message.mk wS [] x) (B 3 0) zeroC []).Reader).bind _) = _
  rw [hclose, Option.bind_some]
  show ((gidx true [S_Message.mk wS [] x] 0).bind _) = _
  rw [gidx_tt rfl, idx0, Option.bind_some]
  have hxx : (x == x) = true := by simp
  show ((gcall (!(bif false then true else (!(x == x)))) intarsialaw10_alive).bind _) = _
  rw [hxx]
  show ((gcall true intarsialaw10_alive).bind _) = _
  rw [gcall_tt rfl, alive_eq, Option.bind_some]
  show (chk _ _) = _
  have hcode : ∃ n : Nat, IntKind.i64.wrap ((IntKind.i64.wrap ((x.length : Int) + (1 : Int))) + ((IntKind.i64.wrap ((a1.tmod (9 : Int)) + (9 : Int))).tmod (9 : Int))) = (n : Int) ∧ x.length < n ∧ n ≤ x.length + 9 ∧ IntKind.i64.wrap (a1.tmod (9 : Int)) = a1.tmod (9 : Int) ∧
      IntKind.i64.wrap ((IntKind.i64.wrap ((a1.tmod (9 : Int)) + (9 : Int))).tmod (9 : Int)) = (IntKind.i64.wrap ((a1.tmod (9 : Int)) + (9 : Int))).tmod (9 : Int) := by
    have h1 : -9 < a1.tmod 9 ∧ a1.tmod 9 < 9 := by
      have h2 := Int.tmod_lt_of_pos a1 (show (0 : Int) < 9 by omega)
      have h3 := Int.lt_tmod_of_pos a1 (show (0 : Int) < 9 by omega)
      omega
    rw [wrap_i64 (n := a1.tmod 9 + 9) (by omega) (by omega)]
    have h4 : 0 ≤ (a1.tmod 9 + 9).tmod 9 ∧ (a1.tmod 9 + 9).tmod 9 < 9 := ⟨Int.tmod_nonneg _ (by omega), Int.tmod_lt_of_pos _ (by omega)⟩
    rw [wrap_i64 (n := (x.length : Int) + 1) (by omega) (by omega)]
    refine ⟨((x.length : Int) + 1 + (a1.tmod 9 + 9).tmod 9).toNat, ?_, by omega, by omega, wrap_i64 (by omega) (by omega), wrap_i64 (by omega) (by omega)⟩
    rw [wrap_i64 (by omega) (by omega)]
    omega
  obtain ⟨n, hn, hn1, hn2, hw1, hw2⟩ := hcode
  rw [chk_pos ⟨rfl, hw1⟩, chk_pos ⟨rfl, hw2⟩, hn, num_loop (by omega) (by omega), Option.bind_some]
  have hd := digits_le (n := n) (by omega)
  have hcat : ∀ s t : Bytes, s.length + t.length ≤ 100000 → cat s t = some (s ++ t) := fun s t h => by unfold cat; rw [chk_pos (by unfold maxLen; omega)]
  have hPl : ([72, 84, 84, 80, 47, 49, 46, 48, 32, 50, 48, 48, 32, 79, 75, 13, 10, 67, 111, 110, 116, 101, 110, 116, 45, 76, 101, 110, 103, 116, 104, 58, 32] : Bytes).length = 33 := rfl
  have hH : ([72, 84, 84, 80, 47, 49, 46, 48, 32, 50, 48, 48, 32, 79, 75, 13, 10, 67, 111, 110, 116, 101, 110, 116, 45, 76, 101, 110, 103, 116, 104, 58, 32] : Bytes) ++ Lib.decDigits n ++ [13, 10, 13, 10] ++ x = lenH (Lib.decDigits n) ++ x := by
    unfold lenH okL nCL
    simp
  generalize ([72, 84, 84, 80, 47, 49, 46, 48, 32, 50, 48, 48, 32, 79, 75, 13, 10, 67, 111, 110, 116, 101, 110, 116, 45, 76, 101, 110, 103, 116, 104, 58, 32] : Bytes) = P at hPl hH ⊢
  rw [Option.bind_some, hcat P (Lib.decDigits n) (by omega), Option.bind_some, hcat (P ++ Lib.decDigits n) [13, 10, 13, 10] (by simp; omega), Option.bind_some, hcat (P ++ Lib.decDigits n ++ [13, 10, 13, 10]) x (by simp; omega), Option.bind_some]
  rw [hH, ends_two hx hn1 (by omega), Option.bind_some]
  have hll : (lenH (Lib.decDigits n) ++ x).length ≤ 40000 := by rw [← hH]; simp; omega
  obtain ⟨y2, hy2, ok2⟩ := feed_ok (newR_ok false getB) hll
  rw [ends_two hx hn1 (by omega)] at hy2
  cases hy2
  have hclose2 : wire_Close (inW false getB [] (S_Message.mk wS [S_Field.mk nCL (Lib.decDigits n)] x) (B 1 (n : Int)) zeroC []).Reader = some ([], 3) := by
    unfold wire_Close
    rw [show wire_Right _ = some true from ok2.ok.right, Option.bind_some]
    rfl
  show ((wire_Close (inW false getB [] (S_Message.mk wS [S_Field.mk nCL (Lib.decDigits n)] x) (B 1 (n : Int)) zeroC []).Reader).bind _) = _
  rw [hclose2, Option.bind_some]
  show some (bif true then (x == x) else false) = _
  rw [hxx]; rfl
end Go.Proofs.YtkfoahoplndelaaGreatDoor
