/-
  Plain laws of the wire: WireWrites, WireBack.
-/
import Derived.Test.YtpionnihpibglaaGreatDoorPw0
import Derived.KernelRfl
import Derived.Lib.SplitLaws
import Derived.Laws.Bits64b
import Derived.Lib.Index
namespace Go.Proofs.YtpionnihpibglaaGreatDoor
open Go Go.Pm
set_option linter.unusedSimpArgs false
set_option linter.unusedVariables false
set_option maxRecDepth 100000
/-! ### It is told, and so -/
def Tot {α : Type} (o : Option α) (P : α → Prop) : Prop := ∃ x, o = some x ∧ P x
section
variable {α β : Type} {P : α → Prop} {Q : β → Prop}
theorem Tot.now {x : α} (h : P x) : Tot (some x) P := ⟨x, rfl, h⟩
theorem Tot.eq {o : Option α} {x : α} (h : o = some x) (hx : P x) : Tot o P := ⟨x, h, hx⟩
theorem Tot.bind {o : Option α} {f : α → Option β} (h : Tot o P) (k : ∀ x, P x → Tot (f x) Q) : Tot (o.bind f) Q := by
  obtain ⟨x, rfl, hx⟩ := h; exact k x hx
theorem Tot.mono {o : Option α} {P' : α → Prop} (h : Tot o P) (k : ∀ x, P x → P' x) : Tot o P' := by
  obtain ⟨x, h1, h2⟩ := h; exact ⟨x, h1, k x h2⟩
theorem Tot.br {b : Bool} {x y : Option α} (h1 : b = true → Tot x P) (h2 : b = false → Tot y P) : Tot (bif b then x else y) P := by
  cases b with
  | true => exact h1 rfl
  | false => exact h2 rfl
theorem Tot.guard [Inhabited α] {g : Bool} {o : Option α} (h : g = true → Tot o P) : Tot (gcall g o) (fun x => g = true → P x) := by
  cases g with
  | true => obtain ⟨x, h1, h2⟩ := h rfl; exact ⟨x, h1, fun _ => h2⟩
  | false => exact ⟨default, rfl, fun h => by cases h⟩
theorem Tot.chk {p : Prop} [Decidable p] {o : Option α} (hp : p) (h : Tot o P) : Tot (Pm.chk p o) P := by rw [chk_pos hp]; exact h
end
theorem loop_tot {σ ρ : Type} {body : σ → Option (σ ⊕ ρ)} (μ : σ → Nat) (Inv : σ → Prop) (Q : ρ → Prop)
    (h : ∀ x, Inv x → (∃ y, body x = some (.inl y) ∧ Inv y ∧ μ y < μ x) ∨ ∃ r, body x = some (.inr r) ∧ Q r) : ∀ x, Inv x → Tot (loopO body x) Q := by
  have key : ∀ n x, μ x ≤ n → Inv x → Tot (loopO body x) Q := by
    intro n
    induction n with
    | zero =>
      intro x hx hi
      rw [loopO_eq]
      rcases h x hi with ⟨y, h1, h2, h3⟩ | ⟨r, h1, h2⟩
      · omega
      · rw [h1]; exact ⟨r, rfl, h2⟩
    | succ n ih =>
      intro x hx hi
      rw [loopO_eq]
      rcases h x hi with ⟨y, h1, h2, h3⟩ | ⟨r, h1, h2⟩
      · rw [h1]; exact ih y (by omega) h2
      · rw [h1]; exact ⟨r, rfl, h2⟩
  exact fun x => key (μ x) x (Nat.le_refl _)
theorem slc_tot {α : Type} {l : List α} {a b : Int} (h : 0 ≤ a ∧ a ≤ b ∧ b ≤ (l.length : Int)) : Tot (slc l a b) (fun x => x = (l.drop a.toNat).take (b.toNat - a.toNat)) := by
  unfold slc; rw [chk_pos h]; exact ⟨_, rfl, rfl⟩
/-! ### Bytes found -/
theorem indexByte_range (s : Bytes) (c : UInt8) : Lib.indexByte s c = -1 ∨ (0 ≤ Lib.indexByte s c ∧ Lib.indexByte s c < (s.length : Int)) := by
  induction s with
  | nil => exact .inl rfl
  | cons b l ih =>
    unfold Lib.indexByte
    split
    · right; simp
    · split
      · exact .inl rfl
      · rename_i h1 h2
        have h2 : Lib.indexByte l c ≠ -1 := by simpa using h2
        right
        rcases ih with h | ⟨h3, h4⟩
        · exact absurd h h2
        · simp; omega
theorem sIndex_one (s : Bytes) (c : UInt8) : stringslite_Index s [c] = some (Lib.indexByte s c) := by
  unfold stringslite_Index
  have e1 : (((([c] : Bytes).length : Nat) : Int) == (0 : Int)) = false := rfl
  have e2 : (((([c] : Bytes).length : Nat) : Int) == (1 : Int)) = true := rfl
  rw [e1, e2, cond_false, cond_true]
  cases h : (([c] : Bytes) == s) with
  | true => rw [← eq_of_beq h]; simp [Lib.indexByte]
  | false =>
    rw [cond_false]
    show ((idx [c] ((0 : Nat) : Int)).bind _) = _
    rw [idx_at (x := c) rfl, Option.bind_some]
    show some (Lib.indexByte s (u8 (c.toNat : Int))) = _
    rw [u8_nat]
def cutC (c : UInt8) : Bytes → Bytes × Bytes × Bool
  | [] => ([], [], false)
  | x :: s => bif x == c then ([], s, true) else (x :: (cutC c s).1, (cutC c s).2)
theorem cutC_index (c : UInt8) : ∀ (s : Bytes), (Lib.indexByte s c = -1 ∧ cutC c s = (s, [], false)) ∨ ∃ i : Nat, Lib.indexByte s c = (i : Int) ∧ i < s.length ∧ cutC c s = (s.take i, s.drop (i + 1), true)
  | [] => .inl ⟨rfl, rfl⟩
  | x :: s => by
    unfold Lib.indexByte cutC
    cases hx : (x == c) with
    | true => exact .inr ⟨0, rfl, by simp, by simp⟩
    | false =>
      rcases cutC_index c s with ⟨h1, h2⟩ | ⟨i, h1, h2, h3⟩
      · left; rw [h1, h2]; exact ⟨rfl, rfl⟩
      · right
        refine ⟨i + 1, ?_, by simpa using h2, by rw [h3]; simp⟩
        rw [h1]
        have : ((i : Int) == -1) = false := by simp
        simp [this]
theorem Cut_one {s : Bytes} (c : UInt8) (hs : s.length ≤ maxLen) : strings_Cut s [c] = some (cutC c s) := by
  unfold strings_Cut stringslite_Cut
  rw [sIndex_one, Option.bind_some]
  rcases cutC_index c s with ⟨h1, h2⟩ | ⟨i, h1, h2, h3⟩
  · rw [h1, h2]; rfl
  · rw [h1, h3]
    have e : decide ((i : Int) ≥ (0 : Int)) = true := by simp
    have e2 : IntKind.i64.wrap ((i : Int) + (((([c] : Bytes).length : Nat) : Int))) = ((i + 1 : Nat) : Int) := by
      rw [wrap_i64 (by simp; omega) (by unfold maxLen at hs; simp; omega)]; simp
    rw [e, cond_true, e2]
    have h4 : slc s 0 (i : Int) = some (s.take i) := by unfold slc; rw [chk_pos (by omega)]; simp
    have h5 : slc s ((i + 1 : Nat) : Int) (s.length : Int) = some (s.drop (i + 1)) := by
      unfold slc
      rw [chk_pos (by omega)]
      show some ((s.drop (i + 1)).take (s.length - (i + 1))) = _
      rw [List.take_of_length_le (by rw [List.length_drop]; exact Nat.le_refl _)]
    rw [h4, Option.bind_some, h5]; rfl
theorem cutC_le (c : UInt8) (s : Bytes) : (cutC c s).1.length ≤ s.length ∧ (cutC c s).2.1.length ≤ s.length := by
  rcases cutC_index c s with ⟨_, h⟩ | ⟨i, _, h1, h⟩
  · rw [h]; exact ⟨Nat.le_refl _, Nat.zero_le _⟩
  · rw [h]; simp; omega
theorem sIdx_one (s : Bytes) (c : UInt8) : strings_Index s [c] = some (Lib.indexByte s c) := by
  first
  | rfl
  | (unfold strings_Index; rw [sIndex_one]; rfl)
theorem Contains_one (s : Bytes) (c : UInt8) : strings_Contains s [c] = some (decide (Lib.indexByte s c ≥ (0 : Int))) := by
  unfold strings_Contains
  rw [sIdx_one]; rfl
/-! ### Ends of texts -/
theorem TrimS_tot {s : Bytes} (c : UInt8) (hs : s.length ≤ maxLen) : Tot (strings_TrimSuffix s [c]) (fun r => r.length ≤ s.length) := by
  unfold strings_TrimSuffix
  refine Tot.bind (P := fun r => r.length ≤ s.length) ?_ (fun x hx => .now hx)
  unfold stringslite_TrimSuffix
  refine Tot.bind (P := fun b => b = true → 1 ≤ s.length) ?_ (fun b hb => ?_)
  · unfold stringslite_HasSuffix
    by_cases h : 1 ≤ s.length
    · have e : gslc (decide ((s.length : Int) ≥ ((([c] : Bytes).length : Nat) : Int))) s (IntKind.i64.wrap ((s.length : Int) - ((([c] : Bytes).length : Nat) : Int))) (s.length : Int) = some ((s.drop (s.length - 1)).take (s.length - (s.length - 1))) := by
        unfold gslc
        rw [wrap_i64 (by simp; omega) (by simp; unfold maxLen at hs; omega), chk_pos (fun _ => ⟨by simp; omega, by simp; omega, Int.le_refl _⟩)]
        have : ((s.length : Int) - ((([c] : Bytes).length : Nat) : Int)).toNat = s.length - 1 := by simp
        rw [this, Int.toNat_natCast]
      rw [e, Option.bind_some]
      exact ⟨_, rfl, fun _ => h⟩
    · have h0 : s = [] := List.eq_nil_of_length_eq_zero (by omega)
      subst h0
      exact ⟨_, rfl, fun h => by cases h⟩
  · refine Tot.br (fun h => ?_) (fun _ => .now (Nat.le_refl _))
    have h1 := hb h
    refine Tot.bind (slc_tot ?_) (fun x hx => .now ?_)
    · rw [wrap_i64 (by simp; omega) (by simp; unfold maxLen at hs; omega)]; simp; omega
    · rw [hx]; simp; omega
theorem TrimP_eq {s p : Bytes} (hs : s.length ≤ maxLen) : strings_TrimPrefix s p = some (bif hasPre s p then s.drop p.length else s) := by
  unfold strings_TrimPrefix stringslite_TrimPrefix
  have h := HasPrefix_eq s p
  have h2 : stringslite_HasPrefix s p = some (hasPre s p) := by
    unfold strings_HasPrefix at h
    cases hx : stringslite_HasPrefix s p with
    | none => rw [hx] at h; cases h
    | some y => rw [hx] at h; exact h
  rw [h2, Option.bind_some]
  cases hb : hasPre s p with
  | false => rfl
  | true =>
    have hl : p.length ≤ s.length := by
      unfold hasPre at hb
      obtain ⟨t, rfl⟩ := List.isPrefixOf_iff_prefix.1 hb
      simp
    rw [cond_true, cond_true]
    unfold slc
    rw [chk_pos (by omega)]
    show some ((s.drop p.length).take (s.length - p.length)) = _
    rw [List.take_of_length_le (by simp)]
/-! ### Lines -/
theorem items_tot {s : Bytes} (hs : s.length ≤ 1000000) : ∀ (k : Nat) (a : Nat), a ≤ s.length → s.length < k + a → Tot (head_items s k (a : Int)) (fun l => ∀ x, x ∈ l → (a : Int) < x.2 ∧ x.2 ≤ (s.length : Int) ∧ x.1.length ≤ s.length) := by
  intro k
  induction k with
  | zero =>
    intro a ha h
    omega
  | succ k ih =>
    intro a ha h
    unfold head_items
    refine Tot.br (fun hd => ?_) (fun hd => .now fun x hx => by cases hx)
    have hd := of_decide_eq_true hd
    refine Tot.bind (slc_tot ⟨by omega, by omega, Int.le_refl _⟩) (fun t ht => ?_)
    have htl : t.length = s.length - a := by rw [ht]; simp
    rw [IndexByte_eq, Option.bind_some]
    have e10 : u8 10 = (10 : UInt8) := rfl
    rw [e10]
    refine Tot.br (fun hn => .now fun x hx => by cases hx) (fun hn => ?_)
    have hn := of_decide_eq_false hn
    have hr := indexByte_range t 10
    generalize Lib.indexByte t 10 = n at hn hr
    rcases hr with hr | ⟨h1, h2⟩
    · omega
    have w1 : IntKind.i64.wrap ((a : Int) + n) = (a : Int) + n := wrap_i64 (by omega) (by omega)
    have w2 : IntKind.i64.wrap (n + 1) = n + 1 := wrap_i64 (by omega) (by omega)
    have w3 : IntKind.i64.wrap ((a : Int) + (n + 1)) = ((a + n.toNat + 1 : Nat) : Int) := by rw [wrap_i64 (by omega) (by omega)]; omega
    rw [w1, w2, w3]
    refine Tot.bind (slc_tot ⟨by omega, by omega, by omega⟩) (fun u hu => ?_)
    have hul : u.length ≤ s.length := by rw [hu]; simp; omega
    refine Tot.bind (TrimS_tot 13 (by unfold maxLen; omega)) (fun line hl => ?_)
    refine Tot.bind (ih (a + n.toNat + 1) (by omega) (by omega)) (fun tl htl2 => .now ?_)
    intro x hx
    rcases List.mem_cons.1 hx with rfl | hx
    · exact ⟨by show (a : Int) < _; omega, by show ((a + n.toNat + 1 : Nat) : Int) ≤ _; omega, by show line.length ≤ _; omega⟩
    · obtain ⟨g1, g2, g3⟩ := htl2 x hx
      exact ⟨by omega, g2, g3⟩
theorem rows_tot {s : Bytes} (hs : s.length ≤ 1000000) : Tot (head_rows s) (fun l => ∀ x, x ∈ l → (0 : Int) < x.2 ∧ x.2 ≤ (s.length : Int) ∧ x.1.length ≤ s.length) := by
  unfold head_rows
  exact items_tot hs (s.length + 1) 0 (by omega) (by omega)
theorem find_range (n : Nat) : ∀ (l : List (Bytes × Int)), (∀ x, x ∈ l → (0 : Int) < x.2 ∧ x.2 ≤ (n : Int) ∧ x.1.length ≤ n) → ((head_find n l).2 = 0 ∧ 1 ≤ (head_find n l).1 ∧ (head_find n l).1 ≤ (n : Int)) ∨ (head_find n l = (0, 3) ∧ n ≤ 4000) ∨ head_find n l = (0, 2)
  | [], _ => by
    unfold head_find
    by_cases h : (n : Int) > 4000
    · rw [decide_eq_true h]; exact .inr (.inr rfl)
    · rw [decide_eq_false h]; exact .inr (.inl ⟨rfl, by omega⟩)
  | (line, a) :: l, h => by
    unfold head_find
    obtain ⟨h1, h2, _⟩ := h _ (List.mem_cons_self ..)
    cases decide (a > 4000) with
    | true => exact .inr (.inr rfl)
    | false =>
      rw [cond_false]
      cases (line == []) with
      | true => exact .inl ⟨rfl, by have : (0 : Int) < a := h1; show (1 : Int) ≤ a; omega, h2⟩
      | false => exact find_range n l (fun x hx => h x (List.mem_cons_of_mem _ hx))
theorem End_tot {s : Bytes} (hs : s.length ≤ 1000000) : Tot (head_End s) (fun r => (r.2 = 0 ∧ 1 ≤ r.1 ∧ r.1 ≤ (s.length : Int)) ∨ (r = (0, 3) ∧ s.length ≤ 4000) ∨ r = (0, 2)) := by
  unfold head_End
  exact Tot.bind (rows_tot hs) (fun l hl => .now (find_range s.length l hl))
/-! ### Fields -/
theorem fold_tot : ∀ (l : List (Bytes × Int)) (out : List S_Field), (∀ x, x ∈ l → x.1.length ≤ 100000) → FRow out → out.length ≤ 40 → Tot (head_fold l out) (fun r => FRow r.1 ∧ r.1.length ≤ 40)
  | [], out, _, h1, h2 => .now ⟨h1, h2⟩
  | (line, a) :: l, out, hl, h1, h2 => by
    have hx := hl _ (List.mem_cons_self ..)
    unfold head_fold
    have hc := cutC_le 58 line
    have nil : FRow [] := ⟨by simp, fun f hf => by cases hf⟩
    rw [Cut_one 58 (by unfold maxLen; exact Nat.le_trans hx (by decide)), Option.bind_some, Trim_eq (by unfold maxLen; have := hc.2; simp at hx; omega), Option.bind_some]
    have hf : (S_Field.mk (cutC 58 line).1 (trim (cutC 58 line).2.1)).Name.length ≤ 100000 ∧ (S_Field.mk (cutC 58 line).1 (trim (cutC 58 line).2.1)).Value.length ≤ 100000 := by
      have := trim_le (cutC 58 line).2.1
      simp at hx ⊢
      omega
    rw [Add_eq h1 ⟨by have := hf.1; unfold maxLen; omega, by have := hf.2; unfold maxLen; omega⟩, Option.bind_some]
    refine Tot.br (fun _ => .now ⟨nil, by simp⟩) (fun _ => ?_)
    refine Tot.br (fun _ => .now ⟨nil, by simp⟩) (fun _ => ?_)
    refine fold_tot l _ (fun x hx => hl x (List.mem_cons_of_mem _ hx)) (addB_row h1 (by omega) hf) ?_
    unfold addB
    cases ((!rightB out) || !mayB (S_Field.mk (cutC 58 line).1 (trim (cutC 58 line).2.1))) with
    | true => simp
    | false =>
      cases he : (out.length == 40) with
      | true => simp
      | false => have : out.length ≠ 40 := by simpa using he
                 simp; omega
theorem HParse_tot {s : Bytes} (hs : s.length ≤ 100000) : Tot (head_Parse s) (fun r => FRow r.1 ∧ r.1.length ≤ 40) := by
  have nil : FRow [] := ⟨by simp, fun f hf => by cases hf⟩
  unfold head_Parse
  refine Tot.br (fun _ => .now ⟨nil, by simp⟩) (fun _ => ?_)
  refine Tot.bind (P := fun _ => True) ?_ (fun b _ => ?_)
  · cases he : (s == ([] : Bytes)) with
    | true => exact ⟨_, rfl, trivial⟩
    | false =>
      have hne : 1 ≤ s.length := by
        rcases s with _ | ⟨x, s⟩
        · simp at he
        · simp
      refine ⟨s[s.length - 1]'(by omega), ?_, trivial⟩
      show gidx true s _ = _
      rw [gidx_tt rfl]
      have e : IntKind.i64.wrap ((s.length : Int) - 1) = ((s.length - 1 : Nat) : Int) := by rw [wrap_i64 (by omega) (by omega)]; omega
      rw [e]
      exact idx_at (List.getElem?_eq_getElem (by omega))
  · refine Tot.br (fun _ => .now ⟨nil, by simp⟩) (fun _ => ?_)
    refine Tot.bind (rows_tot (by omega)) (fun l hl => ?_)
    exact fold_tot l [] (fun x hx => by have := (hl x hx).2.2; omega) nil (by simp)
end Go.Proofs.YtpionnihpibglaaGreatDoor
namespace Go.Proofs.YtpionnihpibglaaGreatDoor
open Go Go.Pm
set_option linter.unusedSimpArgs false
set_option linter.unusedVariables false
set_option maxRecDepth 100000
/-! ### How long a body is -/
def bodyB (asks : Bool) (m : Bytes) (h : S_Message) : S_Body × Int := bif asks then reqB h.Start h.Fields else ansB h.Start h.Fields m
theorem wbody_eq {r : S_Reader} (hs : SSmall r.Head.Start) (hf : FRow r.Head.Fields) : wire_body r = some (bodyB r.Asks r.Method r.Head) := by
  unfold wire_body bodyB
  rw [Request_eq hs hf, Answer_eq hs hf]
  cases r.Asks <;> rfl
def KindOk (b : S_Body) : Prop := b = B 0 0 ∨ (∃ z : Int, 0 ≤ z ∧ z ≤ 20000 ∧ b = B 1 z) ∨ b = B 2 0 ∨ b = B 3 0
theorem sayFold {n : S_Body} (hn : n = B 0 0 ∨ n = B 3 0) : ∀ (l : List Bytes) (c : Option Int), (foldE sayStep (sayFin n) l c).2 = 0 → KindOk (foldE sayStep (sayFin n) l c).1
  | [], none, _ => by
    unfold foldE sayFin
    rcases hn with rfl | rfl
    · exact .inl rfl
    · exact .inr (.inr (.inr rfl))
  | [], some z, h => by
    unfold foldE sayFin at h ⊢
    dsimp only at h ⊢
    by_cases h1 : z < 0
    · rw [decide_eq_true h1] at h; cases h
    · rw [decide_eq_false h1] at h ⊢
      by_cases h2 : z > 20000
      · rw [decide_eq_true h2] at h; cases h
      · rw [decide_eq_false h2]
        exact .inr (.inl ⟨z, by omega, by omega, rfl⟩)
  | x :: l, c, h => by
    rw [foldE_cons] at h ⊢
    cases hs : sayStep c x with
    | inl c' => rw [hs] at h; exact sayFold hn l c' h
    | inr r =>
      rw [hs] at h
      exfalso
      unfold sayStep at hs
      cases hd : ((dec x).2 == 10) with
      | true => rw [hd, cond_true] at hs; cases hs; cases h
      | false =>
        rw [hd, cond_false] at hs
        cases c with
        | none => cases hs
        | some z =>
          cases hz : (sizeOf x == z) with
          | true => simp only [hz, cond_true] at hs; cases hs
          | false => simp only [hz, cond_false] at hs; cases hs; cases h
theorem say_kindW {mi : Int} {l : List S_Field} {n : S_Body} (hn : n = B 0 0 ∨ n = B 3 0) (h : (sayB mi l n).2 = 0) : KindOk (sayB mi l n).1 := by
  unfold sayB at h ⊢
  cases h1 : decide ((valsN l nTE).length > 0) with
  | false => rw [h1, cond_false] at h; rw [cond_false]; exact sayFold hn _ _ h
  | true =>
    rw [h1, cond_true] at h
    rw [cond_true]
    cases h2 : (decide ((valsN l nCL).length > 0) || (mi == 0 || !(lower (Lib.join (valsN l nTE) sep) == chunked))) with
    | true => rw [h2, cond_true] at h; cases h
    | false => rw [cond_false]; exact .inr (.inr (.inl rfl))
structure BodyOk (asks : Bool) (h : S_Message) (b : S_Body) : Prop where
  start : startB h.Start = true
  fields : rightB h.Fields = true
  code : (h.Start.Code == (0 : Int)) = asks
  kind : KindOk b
theorem bodyB_ok {asks : Bool} {m : Bytes} {h : S_Message} (h0 : (bodyB asks m h).2 = 0) : BodyOk asks h (bodyB asks m h).1 := by
  unfold bodyB at h0 ⊢
  cases asks with
  | true =>
    rw [cond_true] at h0 ⊢
    unfold reqB at h0 ⊢
    cases h1 : startB h.Start with
    | false => rw [h1] at h0; cases h0
    | true =>
      cases h2 : (h.Start.Code != (0 : Int)) with
      | true => rw [h1, h2] at h0; cases h0
      | false =>
        cases h3 : rightB h.Fields with
        | false => rw [h1, h2, h3] at h0; cases h0
        | true =>
          rw [h1, h2, h3] at h0
          exact ⟨h1, h3, by simpa using h2, say_kindW (.inl rfl) h0⟩
  | false =>
    rw [cond_false] at h0 ⊢
    unfold ansB at h0 ⊢
    cases h1 : startB h.Start with
    | false => rw [h1] at h0; cases h0
    | true =>
      cases h2 : (h.Start.Code == (0 : Int)) with
      | true => rw [h1, h2] at h0; cases h0
      | false =>
        cases h3 : rightB h.Fields with
        | false => rw [h1, h2, h3] at h0; cases h0
        | true =>
          rw [h1, h2, h3] at h0
          refine ⟨h1, h3, h2, ?_⟩
          revert h0
          show (bif (decide (h.Start.Code < 200) || (h.Start.Code == 204 || (h.Start.Code == 304 || m == ([72, 69, 65, 68] : Bytes)))) then (B 0 0, 0) else sayB h.Start.Minor h.Fields (B 3 0)).2 = (0 : Int) → KindOk (bif (decide (h.Start.Code < 200) || (h.Start.Code == 204 || (h.Start.Code == 304 || m == ([72, 69, 65, 68] : Bytes)))) then (B 0 0, (0 : Int)) else sayB h.Start.Minor h.Fields (B 3 0)).1
          cases (decide (h.Start.Code < 200) || (h.Start.Code == 204 || (h.Start.Code == 304 || m == ([72, 69, 65, 68] : Bytes)))) with
          | true => intro _; exact .inl rfl
          | false => intro h0; exact say_kindW (.inr rfl) h0
/-! ### Hexadecimal numbers -/
theorem u64_id {n : Int} (h : 0 ≤ n) (h' : n < 18446744073709551616) : IntKind.u64.wrap n = n := by
  simp [IntKind.wrap, IntKind.bits, IntKind.signed]
  omega
theorem hex1 (b : UInt8) : Tot (number_ReadHex_1 (b.toNat : Int)) (fun v => 0 ≤ v ∧ v ≤ 16) := by
  have := byte_all (p := fun b => match number_ReadHex_1 (b.toNat : Int) with | some v => decide (0 ≤ v) && decide (v ≤ 16) | none => false) (by kernel_rfl) b
  cases h : number_ReadHex_1 (b.toNat : Int) with
  | none => simp only [h] at this; cases this
  | some v => simp only [h, Bool.and_eq_true, decide_eq_true_eq] at this; exact ⟨v, rfl, this⟩
theorem ReadHex_tot {s : Bytes} (hs : s.length ≤ maxLen) : Tot (number_ReadHex s) (fun r => 0 ≤ r.1 ∧ r.1 ≤ 1099511627776) := by
  unfold number_ReadHex
  refine Tot.bind (P := fun r => 0 ≤ r.1 ∧ r.1 ≤ 1099511627776) ?_ (fun x hx => .now hx)
  unfold number_read_uint64
  refine Tot.br (fun _ => .now (by simp)) (fun _ => ?_)
  refine loop_tot (fun x : Int × Bool × Int => (s.length : Int).toNat - x.2.2.toNat) (fun x => (0 ≤ x.1 ∧ x.1 ≤ 1099511627776) ∧ 0 ≤ x.2.2 ∧ x.2.2 ≤ (s.length : Int)) _ (fun x hx => ?_) _ (by simp [IntKind.wrap, IntKind.bits, IntKind.signed])
  obtain ⟨s1, s2, s3⟩ := x
  obtain ⟨⟨h1, h2⟩, h3, h4⟩ := hx
  simp only at h1 h2 h3 h4
  unfold number_read_uint64_b1
  dsimp only
  by_cases h : s3 < (s.length : Int)
  · rw [decide_eq_true h, cond_true]
    obtain ⟨i, rfl⟩ : ∃ i : Nat, s3 = i := ⟨s3.toNat, by omega⟩
    rw [idx_at (List.getElem?_eq_getElem (show i < s.length by omega)), Option.bind_some]
    obtain ⟨v, hv, hv0, hv1⟩ := hex1 (s[i]'(by omega))
    rw [hv, Option.bind_some, wrap_i64 (by omega) (by unfold maxLen at hs; omega)]
    have e1 : IntKind.u64.wrap (s1 * 16) = s1 * 16 := u64_id (by omega) (by omega)
    have e2 : IntKind.u64.wrap (s1 * 16 + v) = s1 * 16 + v := u64_id (by omega) (by omega)
    rw [e1, e2]
    cases hd : decide (v ≥ (16 : Int)) with
    | true => exact .inr ⟨_, rfl, by simp⟩
    | false =>
      rw [cond_false]
      by_cases hb : s1 * 16 + v > 1099511627776
      · rw [decide_eq_true hb]; exact .inl ⟨_, rfl, ⟨⟨by simp, by simp⟩, by show (0 : Int) ≤ (i : Int) + 1; omega, by show (i : Int) + 1 ≤ _; omega⟩, by show (s.length : Int).toNat - ((i : Int) + 1).toNat < (s.length : Int).toNat - (i : Int).toNat; omega⟩
      · rw [decide_eq_false hb]; exact .inl ⟨_, rfl, ⟨⟨by show (0 : Int) ≤ s1 * 16 + v; omega, by show s1 * 16 + v ≤ _; omega⟩, by show (0 : Int) ≤ (i : Int) + 1; omega, by show (i : Int) + 1 ≤ _; omega⟩, by show (s.length : Int).toNat - ((i : Int) + 1).toNat < (s.length : Int).toNat - (i : Int).toNat; omega⟩
  · rw [decide_eq_false h, cond_false]
    cases s2 with
    | true => exact .inr ⟨_, rfl, by simp⟩
    | false => exact .inr ⟨_, rfl, by simp; omega⟩
/-! ### Chunks -/
structure ChOk (c : S_Chunked) : Prop where
  stage : 0 ≤ c.Stage ∧ c.Stage ≤ 4
  size : 0 ≤ c.Size ∧ c.Size ≤ 20000
  line : c.Line.length ≤ 200 ∧ c.Line.contains 10 = false
  data : c.Stage = 1 → 1 ≤ c.Left ∧ c.Left ≤ 20000 - c.Size ∧ c.Line = []
  rest : c.Stage ≠ 1 → c.Left = 0 ∧ (c.Stage = 4 → c.Line = [])
theorem chRight {c : S_Chunked} : Tot (chunk_Right c) (fun b => b = true ↔ ChOk c) := by
  unfold chunk_Right
  by_cases h : (0 ≤ c.Stage ∧ c.Stage ≤ 4) ∧ (0 ≤ c.Size ∧ c.Size ≤ 20000) ∧ c.Line.length ≤ 200
  · obtain ⟨⟨h1, h2⟩, ⟨h3', h4⟩, h5⟩ := h
    have e : (bif (bif (bif (bif (decide ((c.Stage) < (0 : Int))) then true else (decide ((c.Stage) > (4 : Int)))) then true else (decide ((c.Size) < (0 : Int)))) then true else (decide ((c.Size) > (20000 : Int)))) then true else (decide (((c.Line).length : Int) > (200 : Int)))) = false := by
      rw [decide_eq_false (by omega), decide_eq_false (by omega), decide_eq_false (by omega), decide_eq_false (by omega), decide_eq_false (by omega)]; rfl
    rw [e, gcall_tt (show (!false) = true from rfl), Contains_one, Option.bind_some, indexByte_has, cond_false]
    cases hl : c.Line.contains 10 with
    | true => exact Tot.eq rfl (show (false = true ↔ ChOk c) from ⟨fun h => (by cases h), fun h => absurd (h.line.2.symm.trans hl) (by simp)⟩)
    | false =>
      rw [cond_false]
      by_cases h6 : c.Stage = 1
      · have e6 : (c.Stage == (1 : Int)) = true := by simp [h6]
        rw [e6, cond_true]
        have ew : IntKind.i64.wrap ((20000 : Int) - c.Size) = 20000 - c.Size := wrap_i64 (by omega) (by omega)
        rw [ew]
        refine ⟨_, rfl, ⟨fun h => ?_, fun h => ?_⟩⟩
        · cases d1 : decide (c.Left ≥ 1) with
          | false => rw [d1] at h; cases h
          | true =>
            cases d2 : decide (c.Left ≤ 20000 - c.Size) with
            | false => rw [d1, d2] at h; cases h
            | true =>
              rw [d1, d2] at h
              have h3 : (c.Line == ([] : Bytes)) = true := h
              exact ⟨⟨h1, h2⟩, ⟨h3', h4⟩, ⟨h5, hl⟩, fun _ => ⟨of_decide_eq_true d1, of_decide_eq_true d2, eq_of_beq h3⟩, fun hn => absurd h6 hn⟩
        · obtain ⟨g1, g2, g3⟩ := h.data h6
          rw [decide_eq_true g1, decide_eq_true g2, g3]; rfl
      · have e6 : (c.Stage == (1 : Int)) = false := by simp [h6]
        rw [e6, cond_false]
        refine ⟨_, rfl, ⟨fun h => ?_, fun h => ?_⟩⟩
        · by_cases h7 : c.Left = 0
          · refine ⟨⟨h1, h2⟩, ⟨h3', h4⟩, ⟨h5, hl⟩, fun hn => absurd hn h6, fun _ => ⟨h7, fun h8 => ?_⟩⟩
            rw [h7, h8] at h
            simpa using h
          · have : (c.Left == (0 : Int)) = false := by simp [h7]
            rw [this] at h; cases h
        · obtain ⟨g1, g2⟩ := h.rest h6
          rw [g1]
          by_cases h8 : c.Stage = 4
          · rw [g2 h8, h8]; rfl
          · have : (c.Stage != (4 : Int)) = true := by simp [h8]
            rw [this]; rfl
  · have e : (bif (bif (bif (bif (decide ((c.Stage) < (0 : Int))) then true else (decide ((c.Stage) > (4 : Int)))) then true else (decide ((c.Size) < (0 : Int)))) then true else (decide ((c.Size) > (20000 : Int)))) then true else (decide (((c.Line).length : Int) > (200 : Int)))) = true := by
      by_cases h1 : c.Stage < 0
      · rw [decide_eq_true h1]; rfl
      rw [decide_eq_false h1]
      by_cases h2 : c.Stage > 4
      · rw [decide_eq_true h2]; rfl
      rw [decide_eq_false h2]
      by_cases h3 : c.Size < 0
      · rw [decide_eq_true h3]; rfl
      rw [decide_eq_false h3]
      by_cases h4 : c.Size > 20000
      · rw [decide_eq_true h4]; rfl
      rw [decide_eq_false h4]
      have h5 : ((c.Line).length : Int) > (200 : Int) := by omega
      rw [decide_eq_true h5]; rfl
    rw [e, gcall_ff (show (!true) = false from rfl), Option.bind_some]
    exact Tot.eq rfl (show (false = true ↔ ChOk c) from ⟨fun h => (by cases h), fun hc => absurd ⟨hc.stage, hc.size, hc.line.1⟩ h⟩)
noncomputable def lineG (f : S_chunk_state → Bytes → Option (Unit × S_chunk_state)) (o0 : S_chunk_state) (a1 : Bytes) : Option (Int × S_chunk_state) :=
  (strings_IndexByte a1 (10 : Int)).bind fun x1 =>
    bif (decide (x1 ≥ (0 : Int))) then
      (slc a1 0 x1).bind fun x2 =>
      bif (decide ((IntKind.i64.wrap ((((o0.Chunked).Line).length : Int) + (x2.length : Int))) > (200 : Int))) then
        some ((0 : Int), (S_chunk_state.mk (o0.Chunked) (33 : Int)))
      else
        (cat ((o0.Chunked).Line) x2).bind fun x3 =>
        bif (decide (x1 < (0 : Int))) then
          some ((a1.length : Int), (S_chunk_state.mk (S_Chunked.mk ((o0.Chunked).Stage) x3 ((o0.Chunked).Left) ((o0.Chunked).Size)) (o0.bad)))
        else
          (strings_TrimSuffix x3 ([13] : Bytes)).bind fun x4 =>
          (f (S_chunk_state.mk (S_Chunked.mk ((o0.Chunked).Stage) ([] : Bytes) ((o0.Chunked).Left) ((o0.Chunked).Size)) (o0.bad)) x4).bind fun x5 =>
          some ((IntKind.i64.wrap (x1 + (1 : Int))), (x5.2))
    else
      bif (decide ((IntKind.i64.wrap ((((o0.Chunked).Line).length : Int) + (a1.length : Int))) > (200 : Int))) then
        some ((0 : Int), (S_chunk_state.mk (o0.Chunked) (33 : Int)))
      else
        (cat ((o0.Chunked).Line) a1).bind fun x6 =>
        bif (decide (x1 < (0 : Int))) then
          some ((a1.length : Int), (S_chunk_state.mk (S_Chunked.mk ((o0.Chunked).Stage) x6 ((o0.Chunked).Left) ((o0.Chunked).Size)) (o0.bad)))
        else
          (strings_TrimSuffix x6 ([13] : Bytes)).bind fun x7 =>
          (f (S_chunk_state.mk (S_Chunked.mk ((o0.Chunked).Stage) ([] : Bytes) ((o0.Chunked).Left) ((o0.Chunked).Size)) (o0.bad)) x7).bind fun x8 =>
          some ((IntKind.i64.wrap (x1 + (1 : Int))), (x8.2))
theorem line_eq (o0 : S_chunk_state) (a1 : Bytes) : chunk_state_line o0 a1 = bif (((o0.Chunked).Stage) == (2 : Int)) then lineG chunk_state_end o0 a1 else bif (((o0.Chunked).Stage) == (3 : Int)) then lineG chunk_state_tail o0 a1 else lineG chunk_state_size o0 a1 := rfl
def LineQ (c : S_Chunked) (n : Nat) (r : Int × S_chunk_state) : Prop := r.2.bad ≠ 0 ∨ (1 ≤ r.1 ∧ r.1 ≤ (n : Int) ∧ r.2.bad = 0 ∧ ChOk r.2.Chunked ∧ r.2.Chunked.Size = c.Size)
theorem lineG_tot {f : S_chunk_state → Bytes → Option (Unit × S_chunk_state)} {c : S_Chunked} {a1 : Bytes} (hc : ChOk c) (h1 : c.Stage ≠ 1) (h4 : c.Stage ≠ 4) (ha : 1 ≤ a1.length) (hl : a1.length ≤ 1000000)
    (hf : ∀ x : Bytes, x.length ≤ 200 → Tot (f (S_chunk_state.mk (S_Chunked.mk c.Stage ([] : Bytes) c.Left c.Size) 0) x) (fun r => r.2.bad ≠ 0 ∨ (r.2.bad = 0 ∧ ChOk r.2.Chunked ∧ r.2.Chunked.Size = c.Size))) :
    Tot (lineG f (S_chunk_state.mk c 0) a1) (LineQ c a1.length) := by
  unfold lineG
  have hll := hc.line.1
  rw [IndexByte_eq, Option.bind_some]
  have e10 : u8 10 = (10 : UInt8) := rfl
  rw [e10]
  have hr := indexByte_range a1 10
  have hh := indexByte_has a1 10
  generalize Lib.indexByte a1 10 = n at hr hh
  refine Tot.br (fun hn => ?_) (fun hn => ?_)
  · have hn := of_decide_eq_true hn
    rcases hr with hr | ⟨hr1, hr2⟩
    · omega
    refine Tot.bind (slc_tot ⟨Int.le_refl _, hr1, by omega⟩) (fun x2 hx2 => ?_)
    have hx2l : x2.length = n.toNat := by rw [hx2]; simp; omega
    have ew : IntKind.i64.wrap (((c.Line).length : Int) + (x2.length : Int)) = ((c.Line).length : Int) + (x2.length : Int) := wrap_i64 (by omega) (by omega)
    refine Tot.br (fun _ => .now (.inl (by simp))) (fun hb => ?_)
    have hb : ¬ (IntKind.i64.wrap (((c.Line).length : Int) + (x2.length : Int)) > 200) := of_decide_eq_false hb
    rw [ew] at hb
    have hcat : cat c.Line x2 = some (c.Line ++ x2) := by unfold cat; rw [chk_pos (by unfold maxLen; omega)]
    show Tot ((cat c.Line x2).bind _) _
    rw [hcat, Option.bind_some, decide_eq_false (show ¬ n < 0 by omega), cond_false]
    refine Tot.bind (TrimS_tot 13 (by unfold maxLen; simp; omega)) (fun x4 hx4 => ?_)
    refine Tot.bind (hf x4 (by simp at hx4; omega)) (fun x5 hx5 => .now ?_)
    rw [wrap_i64 (by omega) (by omega)]
    rcases hx5 with h | ⟨g1, g2, g3⟩
    · exact .inl h
    · exact .inr ⟨by show 1 ≤ n + 1; omega, by show n + 1 ≤ _; omega, g1, g2, g3⟩
  · have hno := hn
    have hn := of_decide_eq_false hn
    refine Tot.br (fun _ => .now (.inl (by simp))) (fun hb => ?_)
    have hb : ¬ (IntKind.i64.wrap (((c.Line).length : Int) + (a1.length : Int)) > 200) := of_decide_eq_false hb
    rw [wrap_i64 (by omega) (by omega)] at hb
    have hcat : cat c.Line a1 = some (c.Line ++ a1) := by unfold cat; rw [chk_pos (by unfold maxLen; omega)]
    show Tot ((cat c.Line a1).bind _) _
    rw [hcat, Option.bind_some, decide_eq_true (show n < 0 by omega), cond_true]
    refine .now (.inr ⟨by show (1 : Int) ≤ (a1.length : Int); omega, Int.le_refl _, rfl, ?_, rfl⟩)
    have h3 : a1.contains 10 = false := hh.symm.trans hno
    refine ⟨hc.stage, hc.size, ⟨by show (c.Line ++ a1).length ≤ 200; simp; omega, ?_⟩, fun h => absurd h h1, fun h => ⟨(hc.rest h1).1, fun h => absurd h h4⟩⟩
    show (c.Line ++ a1).contains 10 = false
    have h2 := hc.line.2
    simp only [List.contains_eq_mem, List.mem_append, decide_eq_false_iff_not] at h2 h3 ⊢
    intro h; exact h.elim h2 h3
theorem end_tot {c : S_Chunked} (hc : ChOk c) (h1 : c.Stage ≠ 1) (x : Bytes) : Tot (chunk_state_end (S_chunk_state.mk (S_Chunked.mk c.Stage ([] : Bytes) c.Left c.Size) 0) x) (fun r => r.2.bad ≠ 0 ∨ (r.2.bad = 0 ∧ ChOk r.2.Chunked ∧ r.2.Chunked.Size = c.Size)) := by
  unfold chunk_state_end
  refine Tot.br (fun _ => .now (.inl (by simp))) (fun _ => .now (.inr ⟨rfl, ?_, rfl⟩))
  exact ⟨by simp, hc.size, ⟨by simp, by simp⟩, fun h => (by cases h), fun _ => ⟨(hc.rest h1).1, fun h => by cases h⟩⟩
theorem tail_tot {c : S_Chunked} (hc : ChOk c) (h1 : c.Stage ≠ 1) (h3 : c.Stage = 3) (x : Bytes) : Tot (chunk_state_tail (S_chunk_state.mk (S_Chunked.mk c.Stage ([] : Bytes) c.Left c.Size) 0) x) (fun r => r.2.bad ≠ 0 ∨ (r.2.bad = 0 ∧ ChOk r.2.Chunked ∧ r.2.Chunked.Size = c.Size)) := by
  unfold chunk_state_tail
  refine Tot.br (fun _ => .now (.inr ⟨rfl, ?_, rfl⟩)) (fun _ => .now (.inr ⟨rfl, ?_, rfl⟩))
  · exact ⟨by simp, hc.size, ⟨by simp, by simp⟩, fun h => (by cases h), fun _ => ⟨(hc.rest h1).1, fun h => rfl⟩⟩
  · exact ⟨hc.stage, hc.size, ⟨by simp, by simp⟩, fun h => absurd h h1, fun _ => ⟨(hc.rest h1).1, fun h => rfl⟩⟩
theorem size_tot {c : S_Chunked} (hc : ChOk c) (h1 : c.Stage ≠ 1) (x : Bytes) (hx : x.length ≤ 200) : Tot (chunk_state_size (S_chunk_state.mk (S_Chunked.mk c.Stage ([] : Bytes) c.Left c.Size) 0) x) (fun r => r.2.bad ≠ 0 ∨ (r.2.bad = 0 ∧ ChOk r.2.Chunked ∧ r.2.Chunked.Size = c.Size)) := by
  unfold chunk_state_size
  have hcut := cutC_le 59 x
  have htr := trim_le (cutC 59 x).1
  rw [Cut_one 59 (by unfold maxLen; omega), Option.bind_some, Trim_eq (by unfold maxLen; omega), Option.bind_some]
  refine Tot.bind (ReadHex_tot (by unfold maxLen; omega)) (fun v hv => ?_)
  obtain ⟨hv0, hv1⟩ := hv
  have hsz := hc.size
  refine Tot.br (fun _ => .now (.inl (by simp))) (fun _ => ?_)
  refine Tot.br (fun _ => .now (.inl (by simp))) (fun hb => ?_)
  have ew : IntKind.u64.wrap (IntKind.i64.wrap ((20000 : Int) - c.Size)) = 20000 - c.Size := by rw [wrap_i64 (by omega) (by omega), u64_id (by omega) (by omega)]
  have hle : v.1 ≤ 20000 - c.Size := by
    cases hd : decide (v.1 > (IntKind.u64.wrap (IntKind.i64.wrap ((20000 : Int) - c.Size)))) with
    | true =>
      have hb2 : (bif (v.2 != (0 : Int)) then true else (decide (v.1 > (IntKind.u64.wrap (IntKind.i64.wrap ((20000 : Int) - c.Size)))))) = false := hb
      rw [hd] at hb2
      cases hx : (v.2 != (0 : Int)) <;> rw [hx] at hb2 <;> cases hb2
    | false => have := of_decide_eq_false hd; rw [ew] at this; omega
  refine Tot.br (fun _ => .now (.inr ⟨rfl, ?_, rfl⟩)) (fun hz => .now (.inr ⟨rfl, ?_, rfl⟩))
  · exact ⟨by simp, hc.size, ⟨by simp, by simp⟩, fun h => (by cases h), fun _ => ⟨(hc.rest h1).1, fun h => by cases h⟩⟩
  · have hz : v.1 ≠ 0 := by simpa using hz
    have ew2 : IntKind.i64.wrap v.1 = v.1 := wrap_i64 (by omega) (by omega)
    refine ⟨by simp, hc.size, ⟨by simp, by simp⟩, fun _ => ⟨?_, ?_, rfl⟩, fun h => absurd rfl h⟩
    · show 1 ≤ IntKind.i64.wrap v.1; rw [ew2]; omega
    · show IntKind.i64.wrap v.1 ≤ 20000 - c.Size; rw [ew2]; exact hle
theorem line_tot {c : S_Chunked} {a1 : Bytes} (hc : ChOk c) (h1 : c.Stage ≠ 1) (h4 : c.Stage ≠ 4) (ha : 1 ≤ a1.length) (hl : a1.length ≤ 1000000) : Tot (chunk_state_line (S_chunk_state.mk c 0) a1) (LineQ c a1.length) := by
  rw [line_eq]
  refine Tot.br (fun _ => lineG_tot hc h1 h4 ha hl fun x _ => end_tot hc h1 x) (fun _ => ?_)
  refine Tot.br (fun h3 => lineG_tot hc h1 h4 ha hl fun x _ => tail_tot hc h1 (by simpa using h3) x) (fun _ => ?_)
  exact lineG_tot hc h1 h4 ha hl fun x hx => size_tot hc h1 x hx
structure FeedQ (c : S_Chunked) (t : Bytes) (r : S_Chunked × Bytes × Int × Int) : Prop where
  ok : ChOk r.1
  took : 0 ≤ r.2.2.1 ∧ r.2.2.1 ≤ (t.length : Int)
  all : r.1.Stage ≠ 4 → r.2.2.1 = (t.length : Int)
  size : r.1.Size = c.Size + (r.2.1.length : Int)
  bad : r.2.2.2 = 0
theorem CFeed_tot {c : S_Chunked} {t : Bytes} (hc : ChOk c) (ht : t.length ≤ 1000000) : Tot (chunk_Feed c t) (fun r => r.2.2.2 ≠ 0 ∨ FeedQ c t r) := by
  unfold chunk_Feed
  obtain ⟨b, hb, hb2⟩ := chRight (c := c)
  rw [hb, hb2.2 hc, Option.bind_some]
  show Tot (loopO (chunk_Feed_b1 t) ((0 : Int), (S_chunk_state.mk c (0 : Int)), ([] : Bytes))) _
  refine loop_tot (fun x : Int × S_chunk_state × Bytes => t.length - x.1.toNat) (fun x => (0 ≤ x.1 ∧ x.1 ≤ (t.length : Int)) ∧ x.2.1.bad = 0 ∧ ChOk x.2.1.Chunked ∧ x.2.1.Chunked.Size = c.Size + (x.2.2.length : Int)) _ (fun x hx => ?_) _ ⟨⟨by simp, by simp⟩, rfl, hc, by simp⟩
  obtain ⟨a, ⟨c1, bd⟩, d⟩ := x
  obtain ⟨⟨h1, h2⟩, h3, h4, h5⟩ := hx
  simp only at h1 h2 h3 h4 h5
  subst h3
  have hdl : d.length ≤ 20000 := by have := h4.size; have := hc.size; omega
  unfold chunk_Feed_b1
  dsimp only
  by_cases hlt : a < (t.length : Int)
  · rw [decide_eq_true hlt, cond_true]
    by_cases hs4 : c1.Stage = 4
    · have e : (c1.Stage != (4 : Int)) = false := by simp [hs4]
      rw [e, cond_false]
      refine .inr ⟨_, by unfold bcat; rw [if_pos (by simp; omega)]; rfl, .inr ⟨h4, ⟨h1, h2⟩, fun h => absurd hs4 h, h5, rfl⟩⟩
    · have e : (c1.Stage != (4 : Int)) = true := by simp [hs4]
      rw [e, cond_true]
      by_cases hs1 : c1.Stage = 1
      · have e1 : (c1.Stage != (1 : Int)) = false := by simp [hs1]
        obtain ⟨g1, g2, g3⟩ := h4.data hs1
        have hsz := h4.size
        rw [e1, cond_false]
        have ew : IntKind.i64.wrap ((t.length : Int) - a) = (t.length : Int) - a := wrap_i64 (by omega) (by omega)
        rw [ew]
        obtain ⟨m, hm, hm1, hm2, hm3⟩ : ∃ m, imin c1.Left ((t.length : Int) - a) = m ∧ 1 ≤ m ∧ m ≤ c1.Left ∧ m ≤ (t.length : Int) - a := by
          refine ⟨_, rfl, ?_⟩
          unfold imin
          split <;> omega
        rw [hm]
        have ew2 : IntKind.i64.wrap (a + m) = a + m := wrap_i64 (by omega) (by omega)
        have ew3 : IntKind.i64.wrap (c1.Left - m) = c1.Left - m := wrap_i64 (by omega) (by omega)
        have ew4 : IntKind.i64.wrap (c1.Size + m) = c1.Size + m := wrap_i64 (by omega) (by omega)
        rw [ew2, ew3, ew4]
        have hsl : slc t a (a + m) = some ((t.drop a.toNat).take ((a + m).toNat - a.toNat)) := by unfold slc; rw [chk_pos ⟨h1, by omega, by omega⟩]
        rw [hsl, Option.bind_some]
        have hxl : ((t.drop a.toNat).take ((a + m).toNat - a.toNat)).length = m.toNat := by simp; omega
        have hbc : bcat d ((t.drop a.toNat).take ((a + m).toNat - a.toNat)) = some (d ++ (t.drop a.toNat).take ((a + m).toNat - a.toNat)) := by unfold bcat; rw [if_pos (by rw [hxl]; omega)]
        rw [hbc, Option.bind_some]
        have hsz2 : c1.Size + m = c.Size + ((d ++ (t.drop a.toNat).take ((a + m).toNat - a.toNat)).length : Int) := by rw [List.length_append, hxl]; omega
        by_cases h0 : c1.Left - m = 0
        · have e0 : ((c1.Left - m) == (0 : Int)) = true := by simp [h0]
          rw [e0, cond_true]
          refine .inl ⟨_, rfl, ⟨⟨by show 0 ≤ a + m; omega, by show a + m ≤ _; omega⟩, rfl, ⟨by simp, by show 0 ≤ c1.Size + m ∧ c1.Size + m ≤ 20000; omega, h4.line, fun h => (by cases h), fun _ => ⟨h0, fun h => by cases h⟩⟩, hsz2⟩, by show t.length - (a + m).toNat < t.length - a.toNat; omega⟩
        · have e0 : ((c1.Left - m) == (0 : Int)) = false := by simp [h0]
          rw [e0, cond_false]
          refine .inl ⟨_, rfl, ⟨⟨by show 0 ≤ a + m; omega, by show a + m ≤ _; omega⟩, rfl, ⟨h4.stage, by show 0 ≤ c1.Size + m ∧ c1.Size + m ≤ 20000; omega, h4.line, fun _ => ⟨by show 1 ≤ c1.Left - m; omega, by show c1.Left - m ≤ 20000 - (c1.Size + m); omega, g3⟩, fun h => absurd hs1 h⟩, hsz2⟩, by show t.length - (a + m).toNat < t.length - a.toNat; omega⟩
      · have e1 : (c1.Stage != (1 : Int)) = true := by simp [hs1]
        rw [e1, cond_true]
        have hsl : slc t a (t.length : Int) = some ((t.drop a.toNat).take (t.length - a.toNat)) := by unfold slc; rw [chk_pos ⟨h1, by omega, by omega⟩]; rfl
        rw [hsl, Option.bind_some]
        have hxl : ((t.drop a.toNat).take (t.length - a.toNat)).length = t.length - a.toNat := by simp
        obtain ⟨x6, hx6, hq⟩ := line_tot (a1 := (t.drop a.toNat).take (t.length - a.toNat)) h4 hs1 hs4 (by rw [hxl]; omega) (by rw [hxl]; omega)
        rw [hx6, Option.bind_some]
        rcases hq with hq | ⟨q1, q2, q3, q4, q5⟩
        · have e2 : (x6.2.bad != (0 : Int)) = true := by simp [hq]
          rw [e2, cond_true]
          exact .inr ⟨_, rfl, .inl hq⟩
        · have e2 : (x6.2.bad != (0 : Int)) = false := by simp [q3]
          rw [e2, cond_false]
          rw [hxl] at q2
          have ew : IntKind.i64.wrap (a + x6.1) = a + x6.1 := wrap_i64 (by omega) (by omega)
          rw [ew]
          exact .inl ⟨_, rfl, ⟨⟨by show 0 ≤ a + x6.1; omega, by show a + x6.1 ≤ _; omega⟩, q3, q4, by rw [q5]; exact h5⟩, by show t.length - (a + x6.1).toNat < t.length - a.toNat; omega⟩
  · rw [decide_eq_false hlt, cond_false]
    refine .inr ⟨_, by unfold bcat; rw [if_pos (by simp; omega)]; rfl, .inr ⟨h4, ⟨h1, h2⟩, fun _ => by show a = _; omega, h5, rfl⟩⟩
end Go.Proofs.YtpionnihpibglaaGreatDoor
namespace Go.Proofs.YtpionnihpibglaaGreatDoor
open Go Go.Pm
set_option linter.unusedSimpArgs false
set_option linter.unusedVariables false
set_option maxRecDepth 100000
theorem imin_cases (a b : Int) : (imin a b = a ∧ a ≤ b) ∨ (imin a b = b ∧ b ≤ a) := by
  unfold imin
  split <;> omega
def zeroM : S_Message := S_Message.mk zeroS [] []
def zeroC : S_Chunked := S_Chunked.mk 0 [] 0 0
theorem zeroC_ok : ChOk zeroC := ⟨⟨Int.le_refl _, by decide⟩, ⟨Int.le_refl _, by decide⟩, ⟨Nat.zero_le _, rfl⟩, fun h => (by cases h), fun _ => ⟨rfl, fun _ => rfl⟩⟩
structure RIn (a : Bool) (m : Bytes) (h : S_Message) (b : S_Body) (c : S_Chunked) : Prop where
  start : SSmall h.Start
  fields : FRow h.Fields
  body : bodyB a m h = (b, 0)
  len : h.Body.length ≤ 40000
  noch : b.Kind ≠ 2 → c = zeroC
  k1 : b.Kind = 1 → (h.Body.length : Int) ≤ b.Size
  k2 : b.Kind = 2 → ChOk c ∧ c.Stage ≠ 4 ∧ c.Size = (h.Body.length : Int)
  k3 : b.Kind = 3 → h.Body.length ≤ 20000
def mu (w : S_wire_reading) : Nat := 2 * w.Reader.Buf.length + (bif w.Reader.In then 1 else 0)
structure WI (a : Bool) (m : Bytes) (w : S_wire_reading) : Prop where
  asks : w.Reader.Asks = a
  meth : w.Reader.Method = m
  bad : w.Reader.Bad = 0
  buf : w.Reader.Buf.length ≤ 50000
  cnt : w.out.length + mu w ≤ 1000000
  ou : w.Reader.In = false → w.Reader.Head = zeroM ∧ w.Reader.Body = B 0 0 ∧ w.Reader.Chunk = zeroC
  inn : w.Reader.In = true → RIn a m w.Reader.Head w.Reader.Body w.Reader.Chunk
inductive XOk (a : Bool) (m : Bytes) : S_Reader → Prop
  | bad (e : Int) (he : e ≠ 0) : XOk a m (S_Reader.mk a m [] false zeroM (B 0 0) zeroC e)
  | out (b : Bytes) (hb : b.length ≤ 4000) : XOk a m (S_Reader.mk a m b false zeroM (B 0 0) zeroC 0)
  | inn (h : S_Message) (b : S_Body) (c : S_Chunked) (hr : RIn a m h b c) (h1 : b.Kind = 1 → (h.Body.length : Int) < b.Size) (h0 : b.Kind ≠ 0) : XOk a m (S_Reader.mk a m [] true h b c 0)
theorem RIn.kind {a : Bool} {m : Bytes} {h : S_Message} {b : S_Body} {c : S_Chunked} (hr : RIn a m h b c) : BodyOk a h b := by
  have := bodyB_ok (asks := a) (m := m) (h := h) (by rw [hr.body])
  rw [hr.body] at this
  exact this
theorem fail_eq (w : S_wire_reading) (e : Int) : wire_reading_fail w e = some (false, S_wire_reading.mk (S_Reader.mk w.Reader.Asks w.Reader.Method [] false zeroM (B 0 0) zeroC e) w.out) := rfl
theorem whole_eq {w : S_wire_reading} (h : w.out.length ≤ 1000000) : wire_reading_whole w = some (true, S_wire_reading.mk (S_Reader.mk w.Reader.Asks w.Reader.Method w.Reader.Buf false zeroM (B 0 0) zeroC w.Reader.Bad) (w.out ++ [w.Reader.Head])) := by
  unfold wire_reading_whole app
  rw [chk_pos (by unfold maxLen; simp; omega), Option.bind_some]
  rfl
def MoreQ (a : Bool) (m : Bytes) (w : S_wire_reading) (r : Bool × S_wire_reading) : Prop := (r.1 = true → WI a m r.2 ∧ mu r.2 < mu w) ∧ (r.1 = false → XOk a m r.2.Reader)
theorem more_tot {a : Bool} {m : Bytes} {w : S_wire_reading} (hw : WI a m w) (hin : w.Reader.In = true) : Tot (wire_reading_more w) (MoreQ a m w) := by
  obtain ⟨⟨A, M, Bf, I, H, Bd, C, E⟩, O⟩ := w
  obtain ⟨h1, h2, h3, h4, h5, _, h7⟩ := hw
  have hr := h7 hin
  simp only at h1 h2 h3 h4 h5 hin hr
  subst h1 h2 h3 hin
  have hO : O.length ≤ 1000000 := by unfold mu at h5; omega
  have hmu : mu (S_wire_reading.mk (S_Reader.mk A M Bf true H Bd C 0) O) = 2 * Bf.length + 1 := rfl
  rw [hmu] at h5
  have whole : ∀ (b : Bytes) (h : S_Message) (bd : S_Body) (c : S_Chunked), b.length ≤ Bf.length → WI A M (S_wire_reading.mk (S_Reader.mk A M b false zeroM (B 0 0) zeroC 0) (O ++ [h])) ∧ mu (S_wire_reading.mk (S_Reader.mk A M b false zeroM (B 0 0) zeroC 0) (O ++ [h])) < mu (S_wire_reading.mk (S_Reader.mk A M Bf true H Bd C 0) O) := fun b h bd c hb => by
    have e : mu (S_wire_reading.mk (S_Reader.mk A M b false zeroM (B 0 0) zeroC 0) (O ++ [h])) = 2 * b.length := rfl
    refine ⟨⟨rfl, rfl, rfl, by show b.length ≤ 50000; omega, ?_, fun _ => ⟨rfl, rfl, rfl⟩, fun h => by cases h⟩, by rw [e, hmu]; omega⟩
    rw [e]
    show (O ++ [h]).length + 2 * b.length ≤ 1000000
    simp
    omega
  unfold wire_reading_more
  rcases hr.kind.kind with rfl | ⟨z, hz0, hz1, rfl⟩ | rfl | rfl
  · -- none
    show Tot ((wire_reading_whole _).bind _) _
    rw [whole_eq hO, Option.bind_some]
    exact .now ⟨fun _ => whole Bf H (B 0 0) C (Nat.le_refl _), fun h => by cases h⟩
  · -- a size
    have hk1 : (H.Body.length : Int) ≤ z := hr.k1 rfl
    have hc : C = zeroC := hr.noch (by simp [B])
    show Tot ((slc Bf 0 (imin (Bf.length : Int) (IntKind.i64.wrap (z - (H.Body.length : Int))))).bind fun x2 => (cat H.Body x2).bind fun x3 => (slc Bf (imin (Bf.length : Int) (IntKind.i64.wrap (z - (H.Body.length : Int)))) (Bf.length : Int)).bind fun x4 => _) _
    rw [wrap_i64 (by omega) (by omega)]
    obtain ⟨k, hk, hk1', hk2⟩ : ∃ k : Nat, imin (Bf.length : Int) (z - (H.Body.length : Int)) = (k : Int) ∧ k ≤ Bf.length ∧ ((k : Int) = z - (H.Body.length : Int) ∨ (k = Bf.length ∧ (k : Int) ≤ z - (H.Body.length : Int))) := by
      rcases imin_cases (Bf.length : Int) (z - (H.Body.length : Int)) with ⟨h1, h2⟩ | ⟨h1, h2⟩
      · rw [h1]; exact ⟨Bf.length, rfl, Nat.le_refl _, .inr ⟨rfl, h2⟩⟩
      · rw [h1]; exact ⟨(z - (H.Body.length : Int)).toNat, by omega, by omega, .inl (by omega)⟩
    rw [hk]
    have e1 : slc Bf 0 (k : Int) = some (Bf.take k) := by unfold slc; rw [chk_pos (by omega)]; simp
    have e2 : slc Bf (k : Int) (Bf.length : Int) = some (Bf.drop k) := by
      unfold slc
      rw [chk_pos (by omega)]
      show some ((Bf.drop k).take (Bf.length - k)) = _
      rw [List.take_of_length_le (by simp)]
    have hl := hr.len
    have e3 : cat H.Body (Bf.take k) = some (H.Body ++ Bf.take k) := by unfold cat; rw [chk_pos (by unfold maxLen; simp; omega)]
    rw [e1, Option.bind_some, e3, Option.bind_some, e2, Option.bind_some]
    have hlen : (H.Body ++ Bf.take k).length = H.Body.length + k := by simp; omega
    show Tot (bif (((H.Body ++ Bf.take k).length : Int) == z) then _ else _) _
    by_cases hd : ((H.Body ++ Bf.take k).length : Int) = z
    · have e : (((H.Body ++ Bf.take k).length : Int) == z) = true := by simpa using hd
      rw [e, cond_true, whole_eq hO, Option.bind_some]
      refine .now ⟨fun _ => whole (Bf.drop k) _ (B 1 z) C (by simp), fun h => ?_⟩
      have h' : (bif (((H.Body ++ Bf.take k).length : Int) == z) then true else false) = false := h
      rw [e] at h'
      cases h'
    · have e : (((H.Body ++ Bf.take k).length : Int) == z) = false := by simpa using hd
      rw [e, cond_false]
      have hkb : k = Bf.length := by rcases hk2 with h | h <;> omega
      have hdrop : Bf.drop k = [] := by rw [hkb]; simp
      refine .now ⟨fun h => (by cases h), fun _ => ?_⟩
      show XOk A M (S_Reader.mk A M (Bf.drop k) true (S_Message.mk H.Start H.Fields (H.Body ++ Bf.take k)) (B 1 z) C 0)
      rw [hdrop]
      have hb : bodyB A M (S_Message.mk H.Start H.Fields (H.Body ++ Bf.take k)) = (B 1 z, 0) := hr.body
      exact .inn _ _ _ ⟨hr.start, hr.fields, hb, by show (H.Body ++ Bf.take k).length ≤ 40000; omega, fun _ => hc, fun _ => by show ((H.Body ++ Bf.take k).length : Int) ≤ z; omega, fun h => (by cases h), fun h => (by cases h)⟩ (fun _ => by show ((H.Body ++ Bf.take k).length : Int) < z; omega) (by simp [B])
  · -- chunks
    obtain ⟨g1, g2, g3⟩ := hr.k2 rfl
    obtain ⟨x6, hx6, hq⟩ := CFeed_tot (t := Bf) g1 (by omega)
    show Tot ((chunk_Feed C Bf).bind _) _
    rw [hx6, Option.bind_some]
    rcases hq with hq | hq
    · have e : (x6.2.2.2 != (0 : Int)) = true := by simpa using hq
      rw [e, cond_true, fail_eq, Option.bind_some]
      exact .now ⟨fun h => (by cases h), fun _ => .bad _ hq⟩
    · have e : (x6.2.2.2 != (0 : Int)) = false := by rw [hq.bad]; rfl
      rw [e, cond_false]
      have hl := hr.len
      have hsz := hq.size
      have hso := hq.ok.size
      have e3 : cat H.Body x6.2.1 = some (H.Body ++ x6.2.1) := by unfold cat; rw [chk_pos (by unfold maxLen; omega)]
      have ht := hq.took
      obtain ⟨k, hk⟩ : ∃ k : Nat, x6.2.2.1 = (k : Int) := ⟨x6.2.2.1.toNat, by omega⟩
      have e2 : slc Bf x6.2.2.1 (Bf.length : Int) = some (Bf.drop k) := by
        rw [hk]
        unfold slc
        rw [chk_pos (by omega)]
        show some ((Bf.drop k).take (Bf.length - k)) = _
        rw [List.take_of_length_le (by simp)]
      show Tot ((cat H.Body x6.2.1).bind _) _
      rw [e3, Option.bind_some]
      show Tot ((slc Bf x6.2.2.1 (Bf.length : Int)).bind _) _
      rw [e2, Option.bind_some]
      by_cases hs : x6.1.Stage = 4
      · have e4 : (x6.1.Stage == (4 : Int)) = true := by simpa using hs
        rw [e4, cond_true, whole_eq hO, Option.bind_some]
        exact .now ⟨fun _ => whole (Bf.drop k) _ (B 2 0) C (by simp), fun h => by cases h⟩
      · have e4 : (x6.1.Stage == (4 : Int)) = false := by simpa using hs
        rw [e4, cond_false]
        have hkl := hq.all hs
        have hdrop : Bf.drop k = [] := by rw [show k = Bf.length by omega]; simp
        refine .now ⟨fun h => (by cases h), fun _ => ?_⟩
        show XOk A M (S_Reader.mk A M (Bf.drop k) true (S_Message.mk H.Start H.Fields (H.Body ++ x6.2.1)) (B 2 0) x6.1 0)
        rw [hdrop]
        have hb : bodyB A M (S_Message.mk H.Start H.Fields (H.Body ++ x6.2.1)) = (B 2 0, 0) := hr.body
        have hlen : ((H.Body ++ x6.2.1).length : Int) = x6.1.Size := by rw [List.length_append, hsz, g3]; omega
        exact .inn _ _ _ ⟨hr.start, hr.fields, hb, by show (H.Body ++ x6.2.1).length ≤ 40000; omega, fun h => absurd rfl h, fun h => (by cases h), fun _ => ⟨hq.ok, hs, hlen.symm⟩, fun h => (by cases h)⟩ (fun h => by cases h) (by simp [B])
  · -- up to the end
    have hk3 := hr.k3 rfl
    have hc : C = zeroC := hr.noch (by simp [B])
    have e3 : cat H.Body Bf = some (H.Body ++ Bf) := by unfold cat; rw [chk_pos (by unfold maxLen; omega)]
    show Tot ((cat H.Body Bf).bind _) _
    rw [e3, Option.bind_some]
    by_cases hd : ((H.Body ++ Bf).length : Int) > 20000
    · rw [decide_eq_true hd, cond_true, fail_eq, Option.bind_some]
      exact .now ⟨fun h => (by cases h), fun _ => .bad _ (by simp)⟩
    · rw [decide_eq_false hd, cond_false]
      refine .now ⟨fun h => (by cases h), fun _ => ?_⟩
      have hb : bodyB A M (S_Message.mk H.Start H.Fields (H.Body ++ Bf)) = (B 3 0, 0) := hr.body
      exact .inn (S_Message.mk H.Start H.Fields (H.Body ++ Bf)) _ _ ⟨hr.start, hr.fields, hb, by show (H.Body ++ Bf).length ≤ 40000; omega, fun _ => hc, fun h => (by cases h), fun h => (by cases h), fun _ => by show (H.Body ++ Bf).length ≤ 20000; omega⟩ (fun h => by cases h) (by simp [B])
/-! ### Heads -/
def setBuf (w : S_wire_reading) (b : Bytes) : S_wire_reading := S_wire_reading.mk (S_Reader.mk w.Reader.Asks w.Reader.Method b w.Reader.In w.Reader.Head w.Reader.Body w.Reader.Chunk w.Reader.Bad) w.out
noncomputable def skipB (w : S_wire_reading) (b : Bytes) : Option (S_wire_reading ⊕ S_wire_reading) :=
  (gcall w.Reader.Asks (strings_HasPrefix b ([10] : Bytes))).bind fun x3 => (gcall (w.Reader.Asks && (!x3)) (strings_HasPrefix b ([13, 10] : Bytes))).bind fun x4 =>
  bif (bif w.Reader.Asks then (bif x3 then true else x4) else false) then ((strings_TrimPrefix b ([13] : Bytes)).bind fun x5 => (strings_TrimPrefix x5 ([10] : Bytes)).bind fun x6 => some (.inl (setBuf w x6))) else some (.inr (setBuf w b))
theorem hasPre_len {s p : Bytes} (h : hasPre s p = true) : p.length ≤ s.length := by
  unfold hasPre at h
  obtain ⟨t, rfl⟩ := List.isPrefixOf_iff_prefix.1 h
  simp
theorem skip_tot {w : S_wire_reading} (hb : w.Reader.Buf.length ≤ 50000) : Tot (loopO wire_reading_begin_b1 w) (fun j => ∃ b : Bytes, j = setBuf w b ∧ b.length ≤ w.Reader.Buf.length) := by
  refine loop_tot (fun x : S_wire_reading => x.Reader.Buf.length) (fun x => ∃ b : Bytes, x = setBuf w b ∧ b.length ≤ w.Reader.Buf.length) _ (fun x hx => ?_) w ⟨w.Reader.Buf, rfl, Nat.le_refl _⟩
  obtain ⟨b, rfl, hbl⟩ := hx
  unfold wire_reading_begin_b1
  suffices e : ∀ f : Option (S_wire_reading ⊕ S_wire_reading), f = skipB w b → ((∃ y, f = some (Sum.inl y) ∧ (∃ b : Bytes, y = setBuf w b ∧ b.length ≤ w.Reader.Buf.length) ∧ y.Reader.Buf.length < (setBuf w b).Reader.Buf.length) ∨ ∃ r, f = some (Sum.inr r) ∧ ∃ b : Bytes, r = setBuf w b ∧ b.length ≤ w.Reader.Buf.length) from e _ rfl
  intro f hf
  subst hf
  unfold skipB
  cases hA : w.Reader.Asks with
  | false =>
    right
    rw [gcall_ff rfl, Option.bind_some, gcall_ff (show (false && !(default : Bool)) = false from rfl), Option.bind_some]
    exact ⟨_, rfl, b, rfl, hbl⟩
  | true =>
    rw [gcall_tt rfl, HasPrefix_eq, Option.bind_some]
    have big : b.length ≤ maxLen := by unfold maxLen; omega
    cases h1 : hasPre b [10] with
    | true =>
      left
      rw [gcall_ff (show (true && !true) = false from rfl), Option.bind_some]
      have hl := hasPre_len h1
      have h13 : hasPre b [13] = false := by
        rcases b with _ | ⟨x, b⟩
        · rfl
        · unfold hasPre at h1 ⊢
          simp only [List.isPrefixOf, Bool.and_true, beq_iff_eq] at h1 ⊢
          subst h1
          rfl
      show ∃ y, ((strings_TrimPrefix b ([13] : Bytes)).bind fun x5 => (strings_TrimPrefix x5 ([10] : Bytes)).bind fun x6 => some (Sum.inl (setBuf w x6))) = some (Sum.inl y) ∧ (∃ b : Bytes, y = setBuf w b ∧ b.length ≤ w.Reader.Buf.length) ∧ y.Reader.Buf.length < (setBuf w b).Reader.Buf.length
      rw [TrimP_eq big, h13, cond_false, Option.bind_some, TrimP_eq big, h1, cond_true, Option.bind_some]
      exact ⟨_, rfl, ⟨_, rfl, by simp; omega⟩, by show (b.drop _).length < b.length; simp at hl ⊢; omega⟩
    | false =>
      rw [gcall_tt (show (true && !false) = true from rfl), HasPrefix_eq, Option.bind_some]
      cases h2 : hasPre b [13, 10] with
      | false => right; exact ⟨_, rfl, b, rfl, hbl⟩
      | true =>
        left
        have hl := hasPre_len h2
        have h13 : hasPre b [13] = true := by
          rcases b with _ | ⟨x, b⟩
          · cases h2
          · unfold hasPre at h2 ⊢
            simp only [List.isPrefixOf, Bool.and_eq_true, beq_iff_eq] at h2 ⊢
            exact ⟨h2.1, trivial⟩
        show ∃ y, ((strings_TrimPrefix b ([13] : Bytes)).bind fun x5 => (strings_TrimPrefix x5 ([10] : Bytes)).bind fun x6 => some (Sum.inl (setBuf w x6))) = some (Sum.inl y) ∧ (∃ b : Bytes, y = setBuf w b ∧ b.length ≤ w.Reader.Buf.length) ∧ y.Reader.Buf.length < (setBuf w b).Reader.Buf.length
        rw [TrimP_eq big, h13, cond_true, Option.bind_some, TrimP_eq (by simp; omega), Option.bind_some]
        refine ⟨_, rfl, ⟨_, rfl, ?_⟩, ?_⟩
        · cases hasPre (b.drop ([13] : Bytes).length) [10] <;> simp <;> omega
        · show (bif hasPre (b.drop ([13] : Bytes).length) [10] then _ else _ : Bytes).length < b.length
          cases hasPre (b.drop ([13] : Bytes).length) [10] <;> simp at hl ⊢ <;> omega
noncomputable def begT (rd : Bytes → Option (S_Start × Int)) (j1 : S_wire_reading) (e : Int) (x10 : Bytes × Bytes × Bool) : Option (Bool × S_wire_reading) :=
        (strings_TrimSuffix (x10.1) ([13] : Bytes)).bind fun x11 =>
        (rd x11).bind fun x12 =>
        bif ((x12.2) != (0 : Int)) then
          (wire_reading_fail (S_wire_reading.mk (S_Reader.mk ((j1.Reader).Asks) ((j1.Reader).Method) ((j1.Reader).Buf) ((j1.Reader).In) (S_Message.mk (x12.1) (((j1.Reader).Head).Fields) (((j1.Reader).Head).Body)) ((j1.Reader).Body) ((j1.Reader).Chunk) ((j1.Reader).Bad)) (j1.out)) (x12.2)).bind fun x13 =>
          some ((x13.1), (x13.2))
        else
          (strings_TrimSuffix (x10.2.1) ([10] : Bytes)).bind fun x14 =>
          (strings_TrimSuffix x14 ([13] : Bytes)).bind fun x15 =>
          (head_Parse x15).bind fun x16 =>
          bif ((x16.2) != (0 : Int)) then
            (wire_reading_fail (S_wire_reading.mk (S_Reader.mk ((j1.Reader).Asks) ((j1.Reader).Method) ((j1.Reader).Buf) ((j1.Reader).In) (S_Message.mk (x12.1) (x16.1) (((j1.Reader).Head).Body)) ((j1.Reader).Body) ((j1.Reader).Chunk) ((j1.Reader).Bad)) (j1.out)) (x16.2)).bind fun x17 =>
            some ((x17.1), (x17.2))
          else
            (wire_body (S_Reader.mk ((j1.Reader).Asks) ((j1.Reader).Method) ((j1.Reader).Buf) ((j1.Reader).In) (S_Message.mk (x12.1) (x16.1) (((j1.Reader).Head).Body)) ((j1.Reader).Body) ((j1.Reader).Chunk) ((j1.Reader).Bad))).bind fun x18 =>
            bif ((x18.2) != (0 : Int)) then
              (wire_reading_fail (S_wire_reading.mk (S_Reader.mk ((j1.Reader).Asks) ((j1.Reader).Method) ((j1.Reader).Buf) ((j1.Reader).In) (S_Message.mk (x12.1) (x16.1) (((j1.Reader).Head).Body)) (x18.1) ((j1.Reader).Chunk) ((j1.Reader).Bad)) (j1.out)) (x18.2)).bind fun x19 =>
              some ((x19.1), (x19.2))
            else
              (slc ((j1.Reader).Buf) e (((j1.Reader).Buf).length : Int)).bind fun x20 =>
              bif (bif (((x12.1).Code) != (0 : Int)) then (decide (((x12.1).Code) < (200 : Int))) else false) then
                some (true, (S_wire_reading.mk (S_Reader.mk ((j1.Reader).Asks) ((j1.Reader).Method) x20 ((j1.Reader).In) (S_Message.mk (S_Start.mk ([] : Bytes) ([] : Bytes) (0 : Int) ([] : Bytes) (0 : Int)) ([] : List S_Field) ([] : Bytes)) (S_Body.mk (0 : Int) (0 : Int)) ((j1.Reader).Chunk) ((j1.Reader).Bad)) (j1.out)))
              else
                some (true, (S_wire_reading.mk (S_Reader.mk ((j1.Reader).Asks) ((j1.Reader).Method) x20 true (S_Message.mk (x12.1) (x16.1) (((j1.Reader).Head).Body)) (x18.1) ((j1.Reader).Chunk) ((j1.Reader).Bad)) (j1.out)))
theorem begin_eq (w : S_wire_reading) : wire_reading_begin w = (loopO (wire_reading_begin_b1) w).bind fun j1 => (head_End ((j1.Reader).Buf)).bind fun x7 =>
  bif ((x7.2) == (3 : Int)) then some (false, j1)
  else bif ((x7.2) != (0 : Int)) then (wire_reading_fail j1 (x7.2)).bind fun x8 => some ((x8.1), (x8.2))
  else (slc ((j1.Reader).Buf) 0 (x7.1)).bind fun x9 => (strings_Cut x9 ([10] : Bytes)).bind fun x10 =>
    bif (j1.Reader).Asks then begT start_Parse j1 (x7.1) x10 else begT start_Status j1 (x7.1) x10 := rfl
def RdOk (a : Bool) (n : Nat) (r : S_Start × Int) : Prop := r.2 ≠ 0 ∨ (r.2 = 0 ∧ startB r.1 = true ∧ (r.1.Code == (0 : Int)) = a ∧ SSmall r.1)
theorem read_ok (a : Bool) {l : Bytes} (hl : l.length ≤ 1000000) : Tot (bif a then start_Parse l else start_Status l) (RdOk a l.length) := by
  have hb : ∀ n : Nat, n ≤ l.length → n ≤ maxLen := fun n h => by unfold maxLen; omega
  cases a with
  | true =>
    rw [cond_true, Parse_eq hl]
    refine .now ?_
    rcases parse_cases l with ⟨s, h, h1, h2, h3, h4, h5⟩ | h
    · rw [h]; exact .inr ⟨rfl, h1, by rw [h2]; rfl, ⟨hb _ h3, hb _ h4, by rw [h5]; unfold maxLen; simp⟩⟩
    · rw [h]; exact .inl (by simp)
  | false =>
    rw [cond_false, Status_eq hl]
    refine .now ?_
    rcases status_cases l with ⟨s, h, h1, h2, h3, h4, h5⟩ | h
    · rw [h]; exact .inr ⟨rfl, h1, by simpa using h2, ⟨by rw [h3]; unfold maxLen; simp, by rw [h4]; unfold maxLen; simp, hb _ h5⟩⟩
    · rw [h]; exact .inl (by simp)
theorem begT_tot {a : Bool} {m : Bytes} {rd : Bytes → Option (S_Start × Int)} {w j : S_wire_reading} {e : Int} {x : Bytes × Bytes × Bool} (hrd : ∀ l : Bytes, l.length ≤ 1000000 → Tot (rd l) (RdOk a l.length)) (hw : WI a m w) (hin : w.Reader.In = false)
    (hj : ∃ b : Bytes, j = setBuf w b ∧ b.length ≤ w.Reader.Buf.length) (he : 1 ≤ e ∧ e ≤ (j.Reader.Buf.length : Int)) (hx : x.1.length ≤ 50000 ∧ x.2.1.length ≤ 50000) : Tot (begT rd j e x) (MoreQ a m w) := by
  obtain ⟨b, rfl, hbl⟩ := hj
  obtain ⟨⟨A, M, Bf, I, H, Bd, C, E⟩, O⟩ := w
  obtain ⟨h1, h2, h3, h4, h5, h6, _⟩ := hw
  have ho := h6 hin
  simp only at h1 h2 h3 h4 h5 hin ho hbl
  obtain ⟨o1, o2, o3⟩ := ho
  subst h1 h2 h3 hin o1 o2 o3
  have hmu : mu (S_wire_reading.mk (S_Reader.mk A M Bf false zeroM (B 0 0) zeroC 0) O) = 2 * Bf.length := rfl
  rw [hmu] at h5
  have heb : e ≤ (b.length : Int) := he.2
  have big : ∀ n : Nat, n ≤ 50000 → n ≤ maxLen := fun n h => by unfold maxLen; omega
  unfold begT
  obtain ⟨x11, hx11, hl11⟩ := TrimS_tot 13 (big _ hx.1)
  rw [hx11, Option.bind_some]
  obtain ⟨x12, hx12, hq⟩ := hrd x11 (by omega)
  rw [hx12, Option.bind_some]
  rcases hq with hq | ⟨q0, q1, q2, q3⟩
  · have e1 : (x12.2 != (0 : Int)) = true := by simpa using hq
    rw [e1, cond_true, fail_eq, Option.bind_some]
    exact .now ⟨fun h => (by cases h), fun _ => .bad _ hq⟩
  have e1 : (x12.2 != (0 : Int)) = false := by rw [q0]; rfl
  rw [e1, cond_false]
  obtain ⟨x14, hx14, hl14⟩ := TrimS_tot 10 (big _ hx.2)
  rw [hx14, Option.bind_some]
  obtain ⟨x15, hx15, hl15⟩ := TrimS_tot 13 (s := x14) (big _ (by omega))
  rw [hx15, Option.bind_some]
  obtain ⟨x16, hx16, hf, hfl⟩ := HParse_tot (s := x15) (by omega)
  rw [hx16, Option.bind_some]
  by_cases hb2 : x16.2 = 0
  · have e2 : (x16.2 != (0 : Int)) = false := by rw [hb2]; rfl
    rw [e2, cond_false]
    have hbody := wbody_eq (r := S_Reader.mk A M b false (S_Message.mk x12.1 x16.1 []) (B 0 0) zeroC 0) q3 hf
    show Tot ((wire_body (S_Reader.mk A M b false (S_Message.mk x12.1 x16.1 []) (B 0 0) zeroC 0)).bind _) _
    rw [hbody, Option.bind_some]
    generalize hbb : bodyB A M (S_Message.mk x12.1 x16.1 []) = bb
    by_cases hb3 : bb.2 = 0
    · have e3 : (bb.2 != (0 : Int)) = false := by rw [hb3]; rfl
      show Tot (bif (bb.2 != (0 : Int)) then _ else _) _
      rw [e3, cond_false]
      obtain ⟨k, hk⟩ : ∃ k : Nat, e = (k : Int) := ⟨e.toNat, by omega⟩
      have es : slc b e (b.length : Int) = some (b.drop k) := by
        rw [hk]
        unfold slc
        rw [chk_pos (by omega)]
        show some ((b.drop k).take (b.length - k)) = _
        rw [List.take_of_length_le (by simp)]
      show Tot ((slc b e (b.length : Int)).bind _) _
      rw [es, Option.bind_some]
      have hdl : (b.drop k).length + 1 ≤ Bf.length := by simp; omega
      refine Tot.br (fun _ => .now ⟨fun _ => ?_, fun h => (by cases h)⟩) (fun _ => .now ⟨fun _ => ?_, fun h => (by cases h)⟩)
      · have hm2 : mu (S_wire_reading.mk (S_Reader.mk A M (b.drop k) false zeroM (B 0 0) zeroC 0) O) = 2 * (b.drop k).length := rfl
        exact ⟨⟨rfl, rfl, rfl, by show (b.drop k).length ≤ 50000; omega, by show O.length + mu (S_wire_reading.mk (S_Reader.mk A M (b.drop k) false zeroM (B 0 0) zeroC 0) O) ≤ _; rw [hm2]; omega, fun _ => ⟨rfl, rfl, rfl⟩, fun h => by cases h⟩, by show mu (S_wire_reading.mk (S_Reader.mk A M (b.drop k) false zeroM (B 0 0) zeroC 0) O) < _; rw [hm2, hmu]; omega⟩
      · have hm2 : mu (S_wire_reading.mk (S_Reader.mk A M (b.drop k) true (S_Message.mk x12.1 x16.1 []) bb.1 zeroC 0) O) = 2 * (b.drop k).length + 1 := rfl
        refine ⟨⟨rfl, rfl, rfl, by show (b.drop k).length ≤ 50000; omega, by show O.length + mu (S_wire_reading.mk (S_Reader.mk A M (b.drop k) true (S_Message.mk x12.1 x16.1 []) bb.1 zeroC 0) O) ≤ _; rw [hm2]; omega, fun h => (by cases h), fun _ => ?_⟩, by show mu (S_wire_reading.mk (S_Reader.mk A M (b.drop k) true (S_Message.mk x12.1 x16.1 []) bb.1 zeroC 0) O) < _; rw [hm2, hmu]; omega⟩
        have hbe : bodyB A M (S_Message.mk x12.1 x16.1 []) = (bb.1, 0) := by rw [hbb, ← hb3]
        have hko := bodyB_ok (asks := A) (m := M) (h := S_Message.mk x12.1 x16.1 []) (by rw [hbb]; exact hb3)
        rw [hbb] at hko
        show RIn A M (S_Message.mk x12.1 x16.1 []) bb.1 zeroC
        refine ⟨q3, hf, hbe, Nat.zero_le _, fun _ => rfl, fun hk1 => ?_, fun _ => ⟨zeroC_ok, fun h => (by cases h), rfl⟩, fun _ => Nat.zero_le _⟩
        rcases hko.kind with h | ⟨z, hz0, _, h⟩ | h | h
        · rw [h] at hk1; cases hk1
        · show (([] : Bytes).length : Int) ≤ bb.1.Size
          rw [h]; simpa [B] using hz0
        · rw [h] at hk1; cases hk1
        · rw [h] at hk1; cases hk1
    · have e3 : (bb.2 != (0 : Int)) = true := by simpa using hb3
      show Tot (bif (bb.2 != (0 : Int)) then _ else _) _
      rw [e3, cond_true, fail_eq, Option.bind_some]
      exact .now ⟨fun h => (by cases h), fun _ => .bad _ hb3⟩
  · have e2 : (x16.2 != (0 : Int)) = true := by simpa using hb2
    rw [e2, cond_true, fail_eq, Option.bind_some]
    exact .now ⟨fun h => (by cases h), fun _ => .bad _ hb2⟩
theorem begin_tot {a : Bool} {m : Bytes} {w : S_wire_reading} (hw : WI a m w) (hin : w.Reader.In = false) : Tot (wire_reading_begin w) (MoreQ a m w) := by
  rw [begin_eq]
  refine Tot.bind (skip_tot hw.buf) (fun j hj => ?_)
  obtain ⟨b, hjb, hbl⟩ := hj
  have hjbuf : j.Reader.Buf = b := by rw [hjb]; rfl
  have hbuf := hw.buf
  obtain ⟨x7, hx7, hq⟩ := End_tot (s := j.Reader.Buf) (by rw [hjbuf]; omega)
  rw [hx7, Option.bind_some]
  have fin : ∀ e : Int, e ≠ 0 → MoreQ a m w (false, S_wire_reading.mk (S_Reader.mk j.Reader.Asks j.Reader.Method [] false zeroM (B 0 0) zeroC e) j.out) := fun e he => by
    refine ⟨fun h => (by cases h), fun _ => ?_⟩
    have ea : j.Reader.Asks = a := by rw [hjb]; exact hw.asks
    have em : j.Reader.Method = m := by rw [hjb]; exact hw.meth
    show XOk a m (S_Reader.mk j.Reader.Asks j.Reader.Method [] false zeroM (B 0 0) zeroC e)
    rw [ea, em]
    exact .bad e he
  rcases hq with ⟨h0, h1, h2⟩ | ⟨h3, h4⟩ | h5
  · have e3 : (x7.2 == (3 : Int)) = false := by rw [h0]; rfl
    have e0 : (x7.2 != (0 : Int)) = false := by rw [h0]; rfl
    rw [e3, cond_false, e0, cond_false]
    have es : slc j.Reader.Buf 0 x7.1 = some (j.Reader.Buf.take x7.1.toNat) := by unfold slc; rw [chk_pos (by omega)]; simp
    have hcl := cutC_le 10 (j.Reader.Buf.take x7.1.toNat)
    have htl : (j.Reader.Buf.take x7.1.toNat).length ≤ 50000 := by rw [hjbuf]; simp; omega
    rw [es, Option.bind_some, Cut_one 10 (by unfold maxLen; omega), Option.bind_some]
    have ha : j.Reader.Asks = a := by rw [hjb]; exact hw.asks
    rw [ha]
    have hrd := fun (l : Bytes) (hl : l.length ≤ 1000000) => read_ok a hl
    cases a with
    | true => exact begT_tot (fun l hl => hrd l hl) hw hin ⟨b, hjb, hbl⟩ ⟨h1, h2⟩ ⟨by omega, by omega⟩
    | false => exact begT_tot (fun l hl => hrd l hl) hw hin ⟨b, hjb, hbl⟩ ⟨h1, h2⟩ ⟨by omega, by omega⟩
  · rw [h3]
    refine .now ⟨fun h => (by cases h), fun _ => ?_⟩
    rw [hjbuf] at h4
    subst hjb
    obtain ⟨⟨A, M, Bf, I, H, Bd, C, E⟩, O⟩ := w
    obtain ⟨h1, h2, h3, _, _, h6, _⟩ := hw
    have ho := h6 hin
    simp only at h1 h2 h3 hin ho
    obtain ⟨o1, o2, o3⟩ := ho
    subst h1 h2 h3 hin o1 o2 o3
    exact .out b h4
  · rw [h5]
    show Tot ((wire_reading_fail j 2).bind _) _
    rw [fail_eq, Option.bind_some]
    exact .now (fin 2 (by simp))
end Go.Proofs.YtpionnihpibglaaGreatDoor
namespace Go.Proofs.YtpionnihpibglaaGreatDoor
open Go Go.Pm
set_option linter.unusedSimpArgs false
set_option linter.unusedVariables false
set_option maxRecDepth 100000
theorem empty_tot (h : S_Message) : Tot (wire_empty h) (fun b => b = true ↔ h = zeroM) := by
  unfold wire_empty
  refine .now ?_
  obtain ⟨⟨a, b, c, d, e⟩, f, g⟩ := h
  unfold zeroM zeroS
  cases f <;> simp [and_assoc] <;> intros <;> omega
theorem bare_tot (r : S_Reader) : Tot (wire_bare r) (fun b => b = true ↔ (r.Buf = [] ∧ r.In = false ∧ r.Head = zeroM ∧ r.Body = B 0 0 ∧ r.Chunk = zeroC)) := by
  obtain ⟨A, M, Bf, I, H, ⟨k, z⟩, ⟨c1, c2, c3, c4⟩, E⟩ := r
  obtain ⟨x, hx, hi⟩ := empty_tot H
  unfold wire_bare
  rw [show gcall _ (wire_empty (S_Reader.mk A M Bf I H (S_Body.mk k z) (S_Chunked.mk c1 c2 c3 c4) E).Head) = _ from gcall_val (fun _ => hx), Option.bind_some]
  refine .now ?_
  unfold B zeroC
  dsimp only
  cases hb : (Bf == ([] : Bytes)) with
  | false =>
    have : Bf ≠ [] := by simpa using hb
    simp [this]
  | true =>
    have hb : Bf = [] := by simpa using hb
    cases I with
    | true => simp
    | false =>
      cases x with
      | false =>
        have : H ≠ zeroM := fun h => by have := hi.2 h; cases this
        simp [this]
      | true => simp [hb, hi.1 rfl, and_assoc]
theorem bodyEq (a b : S_Body) : ((a.Kind == b.Kind) && ((a.Size == b.Size) && true)) = true ↔ a = b := by
  obtain ⟨a1, a2⟩ := a
  obtain ⟨b1, b2⟩ := b
  simp
theorem zeroCh (c : S_Chunked) : ((c.Stage == (0 : Int)) && ((c.Line == ([] : Bytes)) && ((c.Left == (0 : Int)) && ((c.Size == (0 : Int)) && true)))) = true ↔ c = zeroC := by
  obtain ⟨c1, c2, c3, c4⟩ := c
  unfold zeroC
  simp
theorem right_tot {r : S_Reader} (hs : SSmall r.Head.Start) (hf : FRow r.Head.Fields) (hl : r.Head.Body.length ≤ 40000) : Tot (wire_Right r) (fun b => b = true ↔ XOk r.Asks r.Method r) := by
  obtain ⟨A, M, Bf, I, H, Bd, C, E⟩ := r
  simp only at hs hf hl
  unfold wire_Right
  dsimp only
  by_cases hE : E = 0
  · subst hE
    rw [show ((0 : Int) != 0) = false from rfl, cond_false]
    cases I with
    | false =>
      rw [show (!false) = true from rfl, cond_true]
      obtain ⟨x, hx, hi⟩ := bare_tot (S_Reader.mk A M [] false H Bd C 0)
      rw [hx, Option.bind_some]
      refine .now ⟨fun h => ?_, fun h => ?_⟩
      · cases x with
        | false => cases h
        | true =>
          have hb : decide ((Bf.length : Int) ≤ 4000) = true := h
          have hb := of_decide_eq_true hb
          obtain ⟨_, _, h1, h2, h3⟩ := hi.1 rfl
          simp only at h1 h2 h3
          subst h1 h2 h3
          exact .out _ (by omega)
      · have : H = zeroM ∧ Bd = B 0 0 ∧ C = zeroC ∧ Bf.length ≤ 4000 := by
          cases h with
          | bad e he => exact absurd rfl he
          | out _ hb => exact ⟨rfl, rfl, rfl, hb⟩
        obtain ⟨rfl, rfl, rfl, hb⟩ := this
        rw [hi.2 ⟨rfl, rfl, rfl, rfl, rfl⟩, cond_true]
        exact decide_eq_true (by omega)
    | true =>
      rw [show (!true) = false from rfl, cond_false, wbody_eq (r := S_Reader.mk A M Bf true H Bd C 0) hs hf, Option.bind_some]
      show Tot (bif (bif (bif (bif (((bodyB A M H)).2 != (0 : Int)) then true else (!((((bodyB A M H).1.Kind) == (Bd.Kind)) && ((((bodyB A M H).1.Size) == (Bd.Size)) && true)))) then true else (!(Bf == ([] : Bytes)))) then true else (bif (((bodyB A M H).1.Kind) != (2 : Int)) then (!(((C.Stage) == (0 : Int)) && (((C.Line) == ([] : Bytes)) && (((C.Left) == (0 : Int)) && (((C.Size) == (0 : Int)) && true))))) else false)) then _ else _) _
      have key : XOk A M (S_Reader.mk A M Bf true H Bd C 0) → bodyB A M H = (Bd, 0) ∧ Bf = [] ∧ RIn A M H Bd C ∧ (Bd.Kind = 1 → (H.Body.length : Int) < Bd.Size) ∧ Bd.Kind ≠ 0 := fun h => by
        cases h with
        | inn _ _ _ hr h1 h0 => exact ⟨hr.body, rfl, hr, h1, h0⟩
      generalize hbb : bodyB A M H = bb at key ⊢
      by_cases h2 : bb.2 = 0
      · rw [show (bb.2 != (0 : Int)) = false by rw [h2]; rfl, cond_false]
        cases hb : ((bb.1.Kind == Bd.Kind) && ((bb.1.Size == Bd.Size) && true)) with
        | false =>
          refine .now ⟨fun h => (by cases h), fun h => ?_⟩
          have := (key h).1
          have : (bb.1.Kind == Bd.Kind) && ((bb.1.Size == Bd.Size) && true) := (bodyEq _ _).2 (by rw [this])
          rw [this] at hb
          cases hb
        | true =>
          have hb := (bodyEq _ _).1 hb
          subst hb
          rw [show (!true) = false from rfl, cond_false]
          cases hf0 : (Bf == ([] : Bytes)) with
          | false =>
            refine .now ⟨fun h => (by cases h), fun h => ?_⟩
            have := (key h).2.1
            rw [this] at hf0
            cases hf0
          | true =>
            have hf0 : Bf = [] := by simpa using hf0
            subst hf0
            rw [show (!true) = false from rfl, cond_false]
            have hbody : bodyB A M H = (bb.1, 0) := by rw [hbb, ← h2]
            have hko := (bodyB_ok (asks := A) (m := M) (h := H) (by rw [hbody])).kind
            rw [hbody] at hko
            have hko : KindOk bb.1 := hko
            generalize bb.1 = Bd at *
            cases hc : (bif (Bd.Kind != (2 : Int)) then (!(((C.Stage) == (0 : Int)) && (((C.Line) == ([] : Bytes)) && (((C.Left) == (0 : Int)) && (((C.Size) == (0 : Int)) && true))))) else false) with
            | true =>
              refine .now ⟨fun h => (by cases h), fun h => ?_⟩
              have hr := (key h).2.2.1
              by_cases hk : Bd.Kind = 2
              · rw [hk] at hc; cases hc
              · have := hr.noch hk
                subst this
                rw [(zeroCh zeroC).2 rfl] at hc
                have e : (Bd.Kind != (2 : Int)) = true := by simpa using hk
                rw [e] at hc
                cases hc
            | false =>
              have hnc : Bd.Kind ≠ 2 → C = zeroC := fun hk => by
                have e : (Bd.Kind != (2 : Int)) = true := by simpa using hk
                rw [e, cond_true] at hc
                refine (zeroCh C).1 ?_
                simpa using hc
              rw [cond_false]
              rcases hko with rfl | ⟨z, hz0, hz1, rfl⟩ | rfl | rfl
              · refine .now ⟨fun h => (by cases h), fun h => absurd rfl (key h).2.2.2.2⟩
              · refine .now ⟨fun h => ?_, fun h => ?_⟩
                · have h := of_decide_eq_true h
                  have h : (H.Body.length : Int) < z := h
                  exact .inn _ _ _ ⟨hs, hf, hbody, hl, hnc, fun _ => by show (H.Body.length : Int) ≤ z; omega, fun h => (by cases h), fun h => (by cases h)⟩ (fun _ => h) (by simp [B])
                · exact decide_eq_true ((key h).2.2.2.1 rfl)
              · obtain ⟨x, hx, hi⟩ := chRight (c := C)
                show Tot ((chunk_Right C).bind _) _
                rw [hx, Option.bind_some]
                refine .now ⟨fun h => ?_, fun h => ?_⟩
                · cases x with
                  | false => cases h
                  | true =>
                    cases h4 : (C.Stage != (4 : Int)) with
                    | false => rw [cond_true, h4] at h; cases h
                    | true =>
                      rw [cond_true, h4, cond_true] at h
                      exact .inn _ _ _ ⟨hs, hf, hbody, hl, hnc, fun h => (by cases h), fun _ => ⟨hi.1 rfl, by simpa using h4, by simpa using h⟩, fun h => (by cases h)⟩ (fun h => by cases h) (by simp [B])
                · obtain ⟨g1, g2, g3⟩ := (key h).2.2.1.k2 rfl
                  rw [hi.2 g1, cond_true, show (C.Stage != (4 : Int)) = true by simpa using g2, cond_true, g3]
                  simp
              · refine .now ⟨fun h => ?_, fun h => ?_⟩
                · have h := of_decide_eq_true h
                  exact .inn _ _ _ ⟨hs, hf, hbody, hl, hnc, fun h => (by cases h), fun h => (by cases h), fun _ => by omega⟩ (fun h => by cases h) (by simp [B])
                · have := (key h).2.2.1.k3 rfl
                  exact decide_eq_true (by omega)
      · have e : (bb.2 != (0 : Int)) = true := by simpa using h2
        rw [e, cond_true, cond_true, cond_true, cond_true]
        refine .now ⟨fun h => (by cases h), fun h => ?_⟩
        have := (key h).1
        rw [this] at h2
        exact absurd rfl h2
  · have e : (E != (0 : Int)) = true := by simpa using hE
    rw [e, cond_true]
    obtain ⟨x, hx, hi⟩ := bare_tot (S_Reader.mk A M Bf I H Bd C E)
    rw [hx, Option.bind_some]
    refine .now ⟨fun h => ?_, fun h => hi.2 ?_⟩
    · obtain ⟨h1, h2, h3, h4, h5⟩ := hi.1 h
      simp only at h1 h2 h3 h4 h5
      subst h1 h2 h3 h4 h5
      exact .bad _ hE
    · cases h with
      | bad => exact ⟨rfl, rfl, rfl, rfl, rfl⟩
      | out => exact absurd rfl hE
      | inn => exact absurd rfl hE
theorem zeroM_small : SSmall zeroM.Start ∧ FRow zeroM.Fields := ⟨⟨Nat.zero_le _, Nat.zero_le _, Nat.zero_le _⟩, ⟨by simp [zeroM], fun f hf => by cases hf⟩⟩
theorem XOk.head {a : Bool} {m : Bytes} {r : S_Reader} (h : XOk a m r) : SSmall r.Head.Start ∧ FRow r.Head.Fields ∧ r.Head.Body.length ≤ 40000 := by
  cases h with
  | bad => exact ⟨zeroM_small.1, zeroM_small.2, Nat.zero_le _⟩
  | out => exact ⟨zeroM_small.1, zeroM_small.2, Nat.zero_le _⟩
  | inn _ _ _ hr => exact ⟨hr.start, hr.fields, hr.len⟩
theorem XOk.asks {a : Bool} {m : Bytes} {r : S_Reader} (h : XOk a m r) : r.Asks = a ∧ r.Method = m := by
  cases h <;> exact ⟨rfl, rfl⟩
theorem XOk.right {a : Bool} {m : Bytes} {r : S_Reader} (h : XOk a m r) : wire_Right r = some true := by
  obtain ⟨h1, h2, h3⟩ := h.head
  obtain ⟨x, hx, hi⟩ := right_tot h1 h2 h3
  rw [hx, hi.2 (by rw [h.asks.1, h.asks.2]; exact h)]
theorem XOk.buf {a : Bool} {m : Bytes} {r : S_Reader} (h : XOk a m r) : r.Buf.length ≤ 4000 := by
  cases h with
  | bad => exact Nat.zero_le _
  | out _ hb => exact hb
  | inn => exact Nat.zero_le _
theorem XOk.body {a : Bool} {m : Bytes} {r : S_Reader} (h : XOk a m r) : r.Head.Body.length ≤ 20000 := by
  cases h with
  | bad => exact Nat.zero_le _
  | out => exact Nat.zero_le _
  | inn h b c hr h1 h0 =>
    show h.Body.length ≤ 20000
    rcases hr.kind.kind with rfl | ⟨z, hz0, hz1, rfl⟩ | rfl | rfl
    · exact absurd rfl h0
    · have : (h.Body.length : Int) < z := h1 rfl
      omega
    · obtain ⟨g1, _, g3⟩ := hr.k2 rfl
      have := g1.size
      omega
    · exact hr.k3 rfl
/-! ### It runs -/
def aliveL : Bytes := [71, 69, 84, 32, 47, 32, 72, 84, 84, 80, 47, 49, 46, 49]
def aliveS : S_Start := S_Start.mk [71, 69, 84] [47] 0 [] 1
def rd0 (b : Bytes) : S_Reader := S_Reader.mk true [] b false zeroM (B 0 0) zeroC 0
theorem alive_line : start_Parse aliveL = some (aliveS, 0) := by
  have hp : printB aliveS = aliveL := by kernel_rfl
  rw [Parse_eq (by decide), ← hp, (print0 (s := aliveS) (by kernel_rfl) rfl).1]
theorem skip_none {w : S_wire_reading} (h : wire_reading_begin_b1 w = some (.inr w)) : loopO wire_reading_begin_b1 w = some w := by rw [loopO_eq, h]
theorem alive_begin : wire_reading_begin (S_wire_reading.mk (rd0 (aliveL ++ [13, 10, 13, 10])) []) = some (true, S_wire_reading.mk (S_Reader.mk true [] [] true (S_Message.mk aliveS [] []) (B 0 0) zeroC 0) []) := by
  rw [begin_eq, skip_none (by kernel_rfl), Option.bind_some]
  have hE : head_End (S_wire_reading.mk (rd0 (aliveL ++ [13, 10, 13, 10])) []).Reader.Buf = some (18, 0) := by kernel_rfl
  rw [hE, Option.bind_some]
  have hS : slc (S_wire_reading.mk (rd0 (aliveL ++ [13, 10, 13, 10])) []).Reader.Buf 0 18 = some (aliveL ++ [13, 10, 13, 10]) := by kernel_rfl
  show ((slc (S_wire_reading.mk (rd0 (aliveL ++ [13, 10, 13, 10])) []).Reader.Buf 0 18).bind fun x9 => (strings_Cut x9 ([10] : Bytes)).bind fun x10 => begT start_Parse _ _ x10) = _
  rw [hS, Option.bind_some, Cut_one 10 (by decide), Option.bind_some]
  have hC : cutC 10 (aliveL ++ [13, 10, 13, 10]) = (aliveL ++ [13], [13, 10], true) := by kernel_rfl
  rw [hC]
  unfold begT
  have h1 : strings_TrimSuffix (aliveL ++ [13], ([13, 10] : Bytes), true).1 ([13] : Bytes) = some aliveL := by kernel_rfl
  rw [h1, Option.bind_some, alive_line, Option.bind_some]
  rw [show ((aliveS, (0 : Int)).2 != (0 : Int)) = false from rfl, cond_false]
  have h2 : strings_TrimSuffix (aliveL ++ [13], ([13, 10] : Bytes), true).2.1 ([10] : Bytes) = some [13] := by kernel_rfl
  have h3 : strings_TrimSuffix ([13] : Bytes) ([13] : Bytes) = some [] := by kernel_rfl
  have h4 : head_Parse ([] : Bytes) = some ([], 0) := by kernel_rfl
  rw [h2, Option.bind_some, h3, Option.bind_some, h4, Option.bind_some]
  rw [show ((([] : List S_Field), (0 : Int)).2 != (0 : Int)) = false from rfl, cond_false]
  have h5 : wire_body (S_Reader.mk true [] (aliveL ++ [13, 10, 13, 10]) false (S_Message.mk aliveS [] []) (B 0 0) zeroC 0) = some (B 0 0, 0) := by
    rw [wbody_eq (r := S_Reader.mk true [] (aliveL ++ [13, 10, 13, 10]) false (S_Message.mk aliveS [] []) (B 0 0) zeroC 0) ⟨by decide, by decide, by decide⟩ zeroM_small.2]
    kernel_rfl
  dsimp only [rd0, zeroM]
  rw [h5, Option.bind_some]
  rfl
theorem alive_eq : intarsialaw10_alive = some true := by
  have h0 : XOk true [] (rd0 []) := .out [] (by decide)
  have hF : wire_Feed (rd0 []) (aliveL ++ [13, 10, 13, 10]) = some (rd0 [], [S_Message.mk aliveS [] []], 0) := by
    unfold wire_Feed
    rw [h0.right, Option.bind_some, show (!true) = false from rfl, cond_false]
    show ((cat ([] : Bytes) (aliveL ++ [13, 10, 13, 10])).bind fun x2 => loopO (wire_Feed_b1) (S_wire_reading.mk (rd0 x2) [])) = _
    have hc : cat ([] : Bytes) (aliveL ++ [13, 10, 13, 10]) = some (aliveL ++ [13, 10, 13, 10]) := by kernel_rfl
    rw [hc, Option.bind_some, loopO_eq]
    unfold wire_Feed_b1
    rw [show (S_wire_reading.mk (rd0 (aliveL ++ [13, 10, 13, 10])) []).Reader.In = false from rfl, cond_false, alive_begin, Option.bind_some]
    show loopO wire_Feed_b1 _ = _
    rw [loopO_eq]
    unfold wire_Feed_b1
    dsimp only
    have hm : wire_reading_more (S_wire_reading.mk (S_Reader.mk true [] [] true (S_Message.mk aliveS [] []) (B 0 0) zeroC 0) []) = some (true, S_wire_reading.mk (rd0 []) [S_Message.mk aliveS [] []]) := by
      have e : wire_reading_more (S_wire_reading.mk (S_Reader.mk true [] [] true (S_Message.mk aliveS [] []) (B 0 0) zeroC 0) []) = (wire_reading_whole (S_wire_reading.mk (S_Reader.mk true [] [] true (S_Message.mk aliveS [] []) (B 0 0) zeroC 0) [])).bind fun x1 => some (x1.1, x1.2) := rfl
      rw [e, whole_eq (by decide), Option.bind_some]
      rfl
    rw [cond_true, hm, Option.bind_some]
    show loopO wire_Feed_b1 _ = _
    rw [loopO_eq]
    unfold wire_Feed_b1
    rw [show (S_wire_reading.mk (rd0 []) [S_Message.mk aliveS [] []]).Reader.In = false from rfl, cond_false, begin_eq, skip_none (by kernel_rfl), Option.bind_some]
    have hE : head_End (S_wire_reading.mk (rd0 []) [S_Message.mk aliveS [] []]).Reader.Buf = some (0, 3) := by kernel_rfl
    rw [hE]
    rfl
  unfold intarsialaw10_alive wire_New
  rw [Option.bind_some]
  have hF' : wire_Feed (S_Reader.mk true [] ([] : Bytes) false (S_Message.mk (S_Start.mk ([] : Bytes) ([] : Bytes) (0 : Int) ([] : Bytes) (0 : Int)) ([] : List S_Field) ([] : Bytes)) (S_Body.mk (0 : Int) (0 : Int)) (S_Chunked.mk (0 : Int) ([] : Bytes) (0 : Int) (0 : Int)) (0 : Int)) ([71, 69, 84, 32, 47, 32, 72, 84, 84, 80, 47, 49, 46, 49, 13, 10, 13, 10] : Bytes) = some (rd0 [], [S_Message.mk aliveS [] []], 0) := hF
  rw [hF', Option.bind_some]
  show (gidx true [S_Message.mk aliveS [] []] 0).bind _ = some true
  kernel_rfl
/-! ### The law -/
def cutM (h : S_Message) : S_Message := S_Message.mk (cutS h.Start) (cutL h.Fields) (h.Body.take 21000)
theorem few_eq (h : S_Message) : intarsialaw10_few h = some (cutM h) := by
  unfold intarsialaw10_few
  rw [slc_cut h.Start.Method 40 (K := 40) rfl, Option.bind_some, slc_cut h.Start.Target 520 (K := 520) rfl, Option.bind_some, slc_cut h.Start.Reason 120 (K := 120) rfl, Option.bind_some, slc_cut h.Fields 45 (K := 45) rfl, Option.bind_some]
  have hm : (h.Fields.take 45).length ≤ 45 := by simp; omega
  unfold cutM cutL
  generalize h.Fields.take 45 = m at *
  rw [chk_pos ⟨big (by omega), by omega⟩]
  have key : loopO (intarsialaw10_few_b1 m) ((0 : Int), m) = some (m.map cutF) := by
    have h := loopO_rec (body := intarsialaw10_few_b1 m) (fun _ => m.map cutF) (fun x => m.length - x.1.toNat) (fun x => ∃ i : Nat, i ≤ m.length ∧ x = ((i : Int), (m.take i).map cutF ++ m.drop i)) ?_ ((0 : Int), m) ⟨0, Nat.zero_le _, by simp⟩
    · exact h
    · rintro _ ⟨i, hi, rfl⟩
      rcases Nat.lt_or_ge i m.length with hlt | hge
      · left
        have hl : ((m.take i).map cutF).length = i := by simp; omega
        have hget : ((m.take i).map cutF ++ m.drop i)[i]? = some m[i] := by
          rw [List.getElem?_append_right (by omega), hl]
          simp
        have hll : ((m.take i).map cutF ++ m.drop i).length = m.length := by simp; omega
        refine ⟨(((i + 1 : Nat) : Int), (m.take (i + 1)).map cutF ++ m.drop (i + 1)), ?_, ⟨i + 1, hlt, rfl⟩, by simp; omega, rfl⟩
        have hnew : ((m.take i).map cutF ++ m.drop i).set i (cutF m[i]) = (m.take (i + 1)).map cutF ++ m.drop (i + 1) := by
          rw [List.take_succ_eq_append_getElem hlt, List.drop_eq_getElem_cons hlt]
          rw [List.set_append_right _ _ (by omega), hl, Nat.sub_self, List.set_cons_zero, List.map_append, List.append_assoc]; rfl
        unfold intarsialaw10_few_b1
        dsimp only
        rw [dlt_true hlt, cond_true, chk_pos (by omega), idx_at hget, Option.bind_some, slc_cut m[i].Name 60 (K := 60) rfl, Option.bind_some, slc_cut m[i].Value 1010 (K := 1010) rfl, Option.bind_some, chk_pos (by omega), seti_at (by omega), Option.bind_some, wrap_inc hlt (big (by omega))]
        show some (Sum.inl (_, List.set _ i (cutF m[i]))) = _
        rw [hnew]
      · right
        have : i = m.length := by omega
        subst this
        unfold intarsialaw10_few_b1
        dsimp only
        rw [dlt_self, cond_false]
        simp
  rw [key, Option.bind_some, slc_cut h.Body 21000 (K := 21000) rfl, Option.bind_some, chk_pos (by simp), List.take_of_length_le (l := m.map cutF) (by simp)]
  rfl
end Go.Proofs.YtpionnihpibglaaGreatDoor
namespace Go.Proofs.YtpionnihpibglaaGreatDoor
open Go Go.Pm
set_option linter.unusedSimpArgs false
set_option linter.unusedVariables false
set_option maxRecDepth 100000
theorem loop_opt {σ ρ : Type} {body : σ → Option (σ ⊕ ρ)} (μ : σ → Nat) (Inv : σ → Prop) (V : σ → Option ρ)
    (h : ∀ x, Inv x → (∃ y, body x = some (.inl y) ∧ Inv y ∧ μ y < μ x ∧ V x = V y) ∨ ∃ r, body x = some (.inr r) ∧ V x = some r) : ∀ x, Inv x → loopO body x = V x := by
  have key : ∀ n x, μ x ≤ n → Inv x → loopO body x = V x := by
    intro n
    induction n with
    | zero =>
      intro x hx hi
      rw [loopO_eq]
      rcases h x hi with ⟨y, h1, h2, h3, h4⟩ | ⟨r, h1, h2⟩
      · omega
      · rw [h1, h2]
    | succ n ih =>
      intro x hx hi
      rw [loopO_eq]
      rcases h x hi with ⟨y, h1, h2, h3, h4⟩ | ⟨r, h1, h2⟩
      · rw [h1, h4]; exact ih y (by omega) h2
      · rw [h1, h2]
  exact fun x => key (μ x) x (Nat.le_refl _)
theorem cutC_parts (c : UInt8) : ∀ s : Bytes, (cutC c s = (s, [], false) ∧ s.contains c = false) ∨ ∃ u r, cutC c s = (u, r, true) ∧ s = u ++ c :: r ∧ u.contains c = false
  | [] => .inl ⟨rfl, rfl⟩
  | x :: s => by
    unfold cutC
    cases hx : (x == c) with
    | true => exact .inr ⟨[], s, rfl, by rw [eq_of_beq hx]; rfl, rfl⟩
    | false =>
      have hx' : (c == x) = false := by
        cases h : (c == x) with
        | false => rfl
        | true => rw [eq_of_beq h] at hx; simp at hx
      rcases cutC_parts c s with ⟨h1, h2⟩ | ⟨u, r, h1, h2, h3⟩
      · left; rw [h1]; exact ⟨rfl, by rw [List.contains_cons, hx', h2]; rfl⟩
      · right; rw [h1]; exact ⟨x :: u, r, rfl, by rw [h2]; rfl, by rw [List.contains_cons, hx', h3]; rfl⟩
abbrev CR : Type := Int ⊕ (S_Chunked × Bytes × Nat)
def bumpN (d : Bytes) (n : Nat) : CR → CR
  | .inl e => .inl e
  | .inr r => .inr (r.1, d ++ r.2.1, r.2.2 + n)
theorem bump0 : bumpN [] 0 = id := by funext x; cases x <;> rfl
theorem bump_bump (d d' : Bytes) (n n' : Nat) (x : CR) : bumpN d n (bumpN d' n' x) = bumpN (d ++ d') (n' + n) x := by
  cases x with
  | inl e => rfl
  | inr r => unfold bumpN; simp [Nat.add_assoc]
theorem map_bump (d d' : Bytes) (n n' : Nat) (o : Option CR) : (o.map (bumpN d' n')).map (bumpN d n) = o.map (bumpN (d ++ d') (n' + n)) := by
  cases o with
  | none => rfl
  | some x => exact congrArg some (bump_bump d d' n n' x)
def dat (c : S_Chunked) (k : Nat) : S_Chunked := bif c.Left - (k : Int) == 0 then S_Chunked.mk 2 c.Line (c.Left - (k : Int)) (c.Size + (k : Int)) else S_Chunked.mk c.Stage c.Line (c.Left - (k : Int)) (c.Size + (k : Int))
def addL (c : S_Chunked) (u : Bytes) : S_Chunked := S_Chunked.mk c.Stage (c.Line ++ u) c.Left c.Size
noncomputable def fOf (c : S_Chunked) : S_chunk_state → Bytes → Option (Unit × S_chunk_state) := bif c.Stage == (2 : Int) then chunk_state_end else bif c.Stage == (3 : Int) then chunk_state_tail else chunk_state_size
noncomputable def lineF (c : S_Chunked) (l : Bytes) : Option S_chunk_state := (strings_TrimSuffix l [13]).bind fun x => (fOf c (S_chunk_state.mk (S_Chunked.mk c.Stage [] c.Left c.Size) 0) x).bind fun r => some r.2
noncomputable def cRun : S_Chunked → Bytes → Option CR
  | c, [] => some (.inr (c, [], 0))
  | c, x :: t =>
    bif c.Stage == (4 : Int) then some (.inr (c, [], 0)) else
    bif c.Stage == (1 : Int) then (cRun (dat c 1) t).map (bumpN [x] 1) else
    bif x == 10 then (lineF c c.Line).bind fun st => bif st.bad != (0 : Int) then some (.inl st.bad) else (cRun st.Chunked t).map (bumpN [] 1) else
    bif decide (c.Line.length + 1 > 200) then some (.inl 33) else (cRun (addL c [x]) t).map (bumpN [] 1)
theorem cRun_nil (c : S_Chunked) : cRun c [] = some (.inr (c, [], 0)) := by unfold cRun; rfl
theorem cRun_done {c : S_Chunked} (h : c.Stage = 4) (t : Bytes) : cRun c t = some (.inr (c, [], 0)) := by
  cases t with
  | nil => exact cRun_nil c
  | cons x t => unfold cRun; rw [h]; rfl
theorem cRun_dat1 {c : S_Chunked} (h : c.Stage = 1) (x : UInt8) (t : Bytes) : cRun c (x :: t) = (cRun (dat c 1) t).map (bumpN [x] 1) := by
  conv => lhs; unfold cRun
  rw [h]; rfl
theorem cRun_lf {c : S_Chunked} (h1 : c.Stage ≠ 1) (h4 : c.Stage ≠ 4) (t : Bytes) : cRun c (10 :: t) = (lineF c c.Line).bind fun st => bif st.bad != (0 : Int) then some (.inl st.bad) else (cRun st.Chunked t).map (bumpN [] 1) := by
  conv => lhs; unfold cRun
  rw [show (c.Stage == (4 : Int)) = false by simpa using h4, show (c.Stage == (1 : Int)) = false by simpa using h1]; rfl
theorem cRun_one {c : S_Chunked} (h1 : c.Stage ≠ 1) (h4 : c.Stage ≠ 4) {x : UInt8} (hx : (x == 10) = false) (t : Bytes) : cRun c (x :: t) = bif decide (c.Line.length + 1 > 200) then some (.inl 33) else (cRun (addL c [x]) t).map (bumpN [] 1) := by
  conv => lhs; unfold cRun
  rw [show (c.Stage == (4 : Int)) = false by simpa using h4, show (c.Stage == (1 : Int)) = false by simpa using h1, hx]; rfl
theorem cRun_line : ∀ (u : Bytes) (c : S_Chunked) (r : Bytes), c.Stage ≠ 1 → c.Stage ≠ 4 → u.contains 10 = false → c.Line.length ≤ 200 → cRun c (u ++ r) = bif decide (c.Line.length + u.length > 200) then some (.inl 33) else (cRun (addL c u) r).map (bumpN [] u.length)
  | [], c, r, h1, h4, hu, hl => by
    rw [decide_eq_false (by simp; omega), cond_false]
    show cRun c r = (cRun (addL c []) r).map (bumpN [] 0)
    rw [bump0]
    have : addL c [] = c := by unfold addL; simp
    rw [this]
    cases cRun c r <;> rfl
  | x :: u, c, r, h1, h4, hu, hl => by
    rw [List.contains_cons, Bool.or_eq_false_iff] at hu
    have hx : (x == 10) = false := by
      cases h : (x == 10) with
      | false => rfl
      | true => rw [eq_of_beq h] at hu; simp at hu
    show cRun c (x :: (u ++ r)) = _
    rw [cRun_one h1 h4 hx]
    by_cases ho : c.Line.length + 1 > 200
    · rw [decide_eq_true ho, decide_eq_true (by simp; omega)]; rfl
    · have hl' : (addL c [x]).Line.length = c.Line.length + 1 := by unfold addL; simp
      rw [decide_eq_false ho, cond_false, cRun_line u (addL c [x]) r h1 h4 hu.2 (by rw [hl']; omega), hl']
      by_cases h2 : c.Line.length + 1 + u.length > 200
      · rw [decide_eq_true h2, decide_eq_true (by simp; omega)]; rfl
      · rw [decide_eq_false h2, decide_eq_false (by simp; omega), cond_false, cond_false, map_bump]
        have : addL (addL c [x]) u = addL c (x :: u) := by unfold addL; simp
        rw [this]; rfl
theorem cRun_data : ∀ (v : Bytes) (c : S_Chunked) (r : Bytes), c.Stage = 1 → v ≠ [] → (v.length : Int) ≤ c.Left → cRun c (v ++ r) = (cRun (dat c v.length) r).map (bumpN v v.length)
  | [], c, r, h1, hv, hl => absurd rfl hv
  | [x], c, r, h1, hv, hl => cRun_dat1 h1 x r
  | x :: y :: v, c, r, h1, hv, hl => by
    show cRun c (x :: (y :: v ++ r)) = _
    simp only [List.length_cons] at hl
    have hd : dat c 1 = S_Chunked.mk c.Stage c.Line (c.Left - 1) (c.Size + 1) := by
      unfold dat
      rw [show (c.Left - ((1 : Nat) : Int) == 0) = false by simp; omega]; rfl
    rw [cRun_dat1 h1, hd, cRun_data (y :: v) (S_Chunked.mk c.Stage c.Line (c.Left - 1) (c.Size + 1)) r h1 (by simp) (by simp; omega), map_bump]
    have : dat (S_Chunked.mk c.Stage c.Line (c.Left - 1) (c.Size + 1)) (y :: v).length = dat c (x :: y :: v).length := by
      unfold dat
      dsimp only
      have e1 : c.Left - 1 - (((y :: v).length : Nat) : Int) = c.Left - (((x :: y :: v).length : Nat) : Int) := by simp; omega
      have e2 : c.Size + 1 + (((y :: v).length : Nat) : Int) = c.Size + (((x :: y :: v).length : Nat) : Int) := by simp; omega
      rw [e1, e2]
    rw [this]; rfl
def toF : CR → S_Chunked × Bytes × Int × Int
  | .inl e => (zeroC, [], 0, e)
  | .inr r => (r.1, r.2.1, (r.2.2 : Int), 0)
theorem line_eq' (o0 : S_chunk_state) (a1 : Bytes) : chunk_state_line o0 a1 = lineG (fOf o0.Chunked) o0 a1 := by
  rw [line_eq]
  unfold fOf
  cases (o0.Chunked.Stage == (2 : Int)) <;> cases (o0.Chunked.Stage == (3 : Int)) <;> rfl
theorem lineG_no {c : S_Chunked} {s : Bytes} (hs : s.contains 10 = false) (hl : c.Line.length ≤ 200) (hsl : s.length ≤ 1000000) (f : S_chunk_state → Bytes → Option (Unit × S_chunk_state)) : lineG f (S_chunk_state.mk c 0) s = bif decide (c.Line.length + s.length > 200) then some (0, S_chunk_state.mk c 33) else some ((s.length : Int), S_chunk_state.mk (addL c s) 0) := by
  have hn : Lib.indexByte s 10 = -1 := by
    have h1 := indexByte_has s 10
    have h2 := indexByte_range s 10
    rw [hs] at h1
    have h1 := of_decide_eq_false h1
    omega
  unfold lineG
  rw [IndexByte_eq, Option.bind_some, show u8 10 = (10 : UInt8) from rfl, hn]
  show (bif decide ((IntKind.i64.wrap (((c.Line).length : Int) + (s.length : Int))) > (200 : Int)) then _ else _) = _
  rw [wrap_i64 (by omega) (by omega)]
  by_cases h : c.Line.length + s.length > 200
  · rw [decide_eq_true h, decide_eq_true (by omega)]; rfl
  · rw [decide_eq_false h, decide_eq_false (by omega), cond_false, cond_false]
    have hcat : cat c.Line s = some (c.Line ++ s) := by unfold cat; rw [chk_pos (by unfold maxLen; omega)]
    show (cat c.Line s).bind _ = _
    rw [hcat]; rfl
theorem lineG_at {c : S_Chunked} {u r : Bytes} (hu : u.contains 10 = false) (hl : c.Line.length ≤ 200) (hsl : (u ++ 10 :: r).length ≤ 1000000) (f : S_chunk_state → Bytes → Option (Unit × S_chunk_state)) : lineG f (S_chunk_state.mk c 0) (u ++ 10 :: r) = bif decide (c.Line.length + u.length > 200) then some (0, S_chunk_state.mk c 33) else (strings_TrimSuffix (c.Line ++ u) [13]).bind fun x => (f (S_chunk_state.mk (S_Chunked.mk c.Stage [] c.Left c.Size) 0) x).bind fun q => some (((u.length + 1 : Nat) : Int), q.2) := by
  have hn : Lib.indexByte (u ++ 10 :: r) 10 = (u.length : Int) := by
    clear hl hsl
    induction u with
    | nil => simp [Lib.indexByte]
    | cons x u ih =>
      rw [List.contains_cons, Bool.or_eq_false_iff] at hu
      have hx : (x == 10) = false := by
        cases h : (x == 10) with
        | false => rfl
        | true => rw [eq_of_beq h] at hu; simp at hu
      show Lib.indexByte (x :: (u ++ 10 :: r)) 10 = _
      unfold Lib.indexByte
      rw [hx, ih hu.2]
      have : (((u.length : Nat) : Int) == -1) = false := by simp
      simp [this]
  simp only [List.length_append, List.length_cons] at hsl
  unfold lineG
  rw [IndexByte_eq, Option.bind_some, show u8 10 = (10 : UInt8) from rfl, hn]
  have hs : slc (u ++ 10 :: r) 0 (u.length : Int) = some u := by
    unfold slc
    rw [chk_pos (by simp; omega)]
    simp
  rw [decide_eq_true (show ((u.length : Int) ≥ 0) by omega), cond_true, hs, Option.bind_some]
  show (bif decide ((IntKind.i64.wrap (((c.Line).length : Int) + (u.length : Int))) > (200 : Int)) then _ else _) = _
  rw [wrap_i64 (by omega) (by omega)]
  by_cases h : c.Line.length + u.length > 200
  · rw [decide_eq_true h, decide_eq_true (by omega)]; rfl
  · rw [decide_eq_false h, decide_eq_false (by omega), cond_false, cond_false]
    have hcat : cat c.Line u = some (c.Line ++ u) := by unfold cat; rw [chk_pos (by unfold maxLen; omega)]
    show (cat c.Line u).bind _ = _
    rw [hcat, Option.bind_some, decide_eq_false (show ¬ ((u.length : Int) < 0) by omega), cond_false, wrap_i64 (by omega) (by omega)]
    rfl
theorem CFeed_eq {c : S_Chunked} {t : Bytes} (hc : ChOk c) (ht : t.length ≤ 1000000) : chunk_Feed c t = (cRun c t).map toF := by
  unfold chunk_Feed
  obtain ⟨b, hb, hb2⟩ := chRight (c := c)
  rw [hb, hb2.2 hc, Option.bind_some]
  show loopO (chunk_Feed_b1 t) ((0 : Int), (S_chunk_state.mk c (0 : Int)), ([] : Bytes)) = _
  have key := loop_opt (body := chunk_Feed_b1 t) (fun x : Int × S_chunk_state × Bytes => t.length - x.1.toNat)
    (fun x => ∃ (i : Nat) (c1 : S_Chunked), x.1 = (i : Int) ∧ i ≤ t.length ∧ x.2.1 = S_chunk_state.mk c1 0 ∧ ChOk c1 ∧ c1.Size = c.Size + (x.2.2.length : Int))
    (fun x => ((cRun x.2.1.Chunked (t.drop x.1.toNat)).map (bumpN x.2.2 x.1.toNat)).map toF) (fun x hx => ?_) ((0 : Int), (S_chunk_state.mk c (0 : Int)), ([] : Bytes)) ⟨0, c, rfl, Nat.zero_le _, rfl, hc, by simp⟩
  · rw [key]
    show ((cRun c t).map (bumpN [] 0)).map toF = _
    rw [bump0]
    cases cRun c t <;> rfl
  obtain ⟨a, st, d⟩ := x
  obtain ⟨i, c1, h1, h2, h3, h4, h5⟩ := hx
  simp only at h1 h2 h3 h4 h5
  subst h1 h3
  have hdl : d.length ≤ 20000 := by have := h4.size; have := hc.size; omega
  have hfin : ((cRun c1 (t.drop ((i : Int)).toNat)).map (bumpN d ((i : Int)).toNat)).map toF = ((cRun c1 (t.drop i)).map (bumpN d i)).map toF := by rw [Int.toNat_natCast]
  unfold chunk_Feed_b1
  dsimp only
  by_cases hlt : i < t.length
  · rw [decide_eq_true (show (i : Int) < (t.length : Int) by omega), cond_true]
    by_cases hs4 : c1.Stage = 4
    · have e : (c1.Stage != (4 : Int)) = false := by simp [hs4]
      rw [e, cond_false]
      refine .inr ⟨_, by unfold bcat; rw [if_pos (by simp; omega)]; rfl, ?_⟩
      rw [hfin, cRun_done hs4]
      show some (c1, d ++ [], ((0 + i : Nat) : Int), (0 : Int)) = _
      simp
    · have e : (c1.Stage != (4 : Int)) = true := by simp [hs4]
      rw [e, cond_true]
      by_cases hs1 : c1.Stage = 1
      · have e1 : (c1.Stage != (1 : Int)) = false := by simp [hs1]
        obtain ⟨g1, g2, g3⟩ := h4.data hs1
        have hsz := h4.size
        rw [e1, cond_false]
        have ew : IntKind.i64.wrap ((t.length : Int) - i) = (t.length : Int) - i := wrap_i64 (by omega) (by omega)
        rw [ew]
        obtain ⟨m, hm, hm1, hm2, hm3⟩ : ∃ m : Nat, imin c1.Left ((t.length : Int) - i) = (m : Int) ∧ 1 ≤ m ∧ (m : Int) ≤ c1.Left ∧ i + m ≤ t.length := by
          rcases imin_cases c1.Left ((t.length : Int) - i) with ⟨q1, q2⟩ | ⟨q1, q2⟩
          · rw [q1]; exact ⟨c1.Left.toNat, by omega, by omega, by omega, by omega⟩
          · rw [q1]; exact ⟨t.length - i, by omega, by omega, by omega, by omega⟩
        rw [hm]
        have ew2 : IntKind.i64.wrap ((i : Int) + m) = ((i + m : Nat) : Int) := by rw [wrap_i64 (by omega) (by omega)]; omega
        have ew3 : IntKind.i64.wrap (c1.Left - m) = c1.Left - m := wrap_i64 (by omega) (by omega)
        have ew4 : IntKind.i64.wrap (c1.Size + m) = c1.Size + m := wrap_i64 (by omega) (by omega)
        rw [ew2, ew3, ew4]
        have hsl : slc t (i : Int) ((i + m : Nat) : Int) = some ((t.drop i).take m) := by
          unfold slc
          rw [chk_pos (by omega)]
          show some ((t.drop i).take (i + m - i)) = _
          rw [Nat.add_sub_cancel_left]
        rw [hsl, Option.bind_some]
        have hxl : ((t.drop i).take m).length = m := by simp; omega
        have hbc : bcat d ((t.drop i).take m) = some (d ++ (t.drop i).take m) := by unfold bcat; rw [if_pos (by rw [hxl]; omega)]
        rw [hbc, Option.bind_some]
        have hsz2 : c1.Size + m = c.Size + ((d ++ (t.drop i).take m).length : Int) := by rw [List.length_append, hxl]; omega
        have hsplit : t.drop i = (t.drop i).take m ++ t.drop (i + m) := by rw [← List.drop_drop, List.take_append_drop]
        have hrun : ((cRun c1 (t.drop i)).map (bumpN d i)).map toF = ((cRun (dat c1 m) (t.drop (i + m))).map (bumpN (d ++ (t.drop i).take m) (i + m))).map toF := by
          conv => lhs; rw [hsplit]
          rw [cRun_data _ _ _ hs1 (fun h => by rw [h] at hxl; simp at hxl; omega) (by rw [hxl]; exact hm2), map_bump, hxl]
          rw [Nat.add_comm m i]
        by_cases h0 : c1.Left - m = 0
        · have e0 : ((c1.Left - (m : Int)) == (0 : Int)) = true := by simp [h0]
          have hd : dat c1 m = S_Chunked.mk 2 c1.Line (c1.Left - m) (c1.Size + m) := by unfold dat; rw [e0]; rfl
          rw [e0, cond_true]
          refine .inl ⟨_, rfl, ⟨i + m, dat c1 m, rfl, by omega, by rw [hd], ?_, ?_⟩, by show t.length - ((i + m : Nat) : Int).toNat < t.length - ((i : Nat) : Int).toNat; omega, ?_⟩
          · rw [hd]; exact ⟨by simp, by show 0 ≤ c1.Size + (m : Int) ∧ c1.Size + (m : Int) ≤ 20000; omega, h4.line, fun h => (by cases h), fun _ => ⟨h0, fun h => by cases h⟩⟩
          · rw [hd]; exact hsz2
          · rw [hfin, hrun, hd]
            rfl
        · have e0 : ((c1.Left - (m : Int)) == (0 : Int)) = false := by simp [h0]
          have hd : dat c1 m = S_Chunked.mk c1.Stage c1.Line (c1.Left - m) (c1.Size + m) := by unfold dat; rw [e0]; rfl
          rw [e0, cond_false]
          refine .inl ⟨_, rfl, ⟨i + m, dat c1 m, rfl, by omega, by rw [hd], ?_, ?_⟩, by show t.length - ((i + m : Nat) : Int).toNat < t.length - ((i : Nat) : Int).toNat; omega, ?_⟩
          · rw [hd]; exact ⟨h4.stage, by show 0 ≤ c1.Size + (m : Int) ∧ c1.Size + (m : Int) ≤ 20000; omega, h4.line, fun _ => ⟨by show 1 ≤ c1.Left - (m : Int); omega, by show c1.Left - (m : Int) ≤ 20000 - (c1.Size + (m : Int)); omega, g3⟩, fun h => absurd hs1 h⟩
          · rw [hd]; exact hsz2
          · rw [hfin, hrun, hd]
            rfl
      · have e1 : (c1.Stage != (1 : Int)) = true := by simp [hs1]
        rw [e1, cond_true]
        have hsl : slc t (i : Int) (t.length : Int) = some (t.drop i) := by
          unfold slc
          rw [chk_pos (by omega)]
          show some ((t.drop i).take (t.length - i)) = _
          rw [List.take_of_length_le (by simp)]
        rw [hsl, Option.bind_some]
        have hxl : (t.drop i).length = t.length - i := by simp
        obtain ⟨x6, hx6, hq⟩ := line_tot (a1 := t.drop i) h4 hs1 hs4 (by rw [hxl]; omega) (by rw [hxl]; omega)
        have hll := h4.line.1
        rw [hx6, Option.bind_some]
        rw [line_eq'] at hx6
        have hx6 : lineG (fOf c1) (S_chunk_state.mk c1 0) (t.drop i) = some x6 := hx6
        rcases cutC_parts 10 (t.drop i) with ⟨_, hno⟩ | ⟨u, r, _, hsp, hu⟩
        · rw [lineG_no hno hll (by omega)] at hx6
          have hrun := cRun_line (t.drop i) c1 [] hs1 hs4 hno hll
          rw [List.append_nil] at hrun
          by_cases hov : c1.Line.length + (t.drop i).length > 200
          · rw [decide_eq_true hov, cond_true] at hx6 hrun
            cases hx6
            refine .inr ⟨_, rfl, ?_⟩
            rw [hfin, hrun]; rfl
          · rw [decide_eq_false hov, cond_false] at hx6 hrun
            cases hx6
            have ew : IntKind.i64.wrap ((i : Int) + (((t.drop i).length : Nat) : Int)) = ((t.length : Nat) : Int) := by rw [wrap_i64 (by omega) (by omega)]; omega
            rcases hq with hq | ⟨_, _, _, q4, q5⟩
            · exact absurd rfl hq
            refine .inl ⟨_, rfl, ⟨t.length, addL c1 (t.drop i), ew, Nat.le_refl _, rfl, q4, by show (addL c1 (t.drop i)).Size = _; rw [q5]; exact h5⟩, ?_, ?_⟩
            · show t.length - (IntKind.i64.wrap ((i : Int) + (((t.drop i).length : Nat) : Int))).toNat < t.length - ((i : Nat) : Int).toNat
              rw [ew]; omega
            · rw [hfin, hrun, map_bump]
              show _ = ((cRun (addL c1 (t.drop i)) (t.drop (IntKind.i64.wrap ((i : Int) + (((t.drop i).length : Nat) : Int))).toNat)).map (bumpN d (IntKind.i64.wrap ((i : Int) + (((t.drop i).length : Nat) : Int))).toNat)).map toF
              rw [ew, Int.toNat_natCast, List.drop_length, List.append_nil, hxl, Nat.sub_add_cancel (by omega)]
        · rw [hsp, lineG_at hu hll (by rw [← hsp]; omega)] at hx6
          have hrun := cRun_line u c1 (10 :: r) hs1 hs4 hu hll
          rw [← hsp] at hrun
          by_cases hov : c1.Line.length + u.length > 200
          · rw [decide_eq_true hov, cond_true] at hx6 hrun
            cases hx6
            refine .inr ⟨_, rfl, ?_⟩
            rw [hfin, hrun]; rfl
          · rw [decide_eq_false hov, cond_false] at hx6 hrun
            rw [cRun_lf (c := addL c1 u) hs1 hs4] at hrun
            have hF : lineF (addL c1 u) (addL c1 u).Line = some x6.2 ∧ x6.1 = ((u.length + 1 : Nat) : Int) := by
              unfold lineF
              show ((strings_TrimSuffix (c1.Line ++ u) [13]).bind fun x => (fOf c1 (S_chunk_state.mk (S_Chunked.mk c1.Stage [] c1.Left c1.Size) 0) x).bind fun r => some r.2) = some x6.2 ∧ _
              cases h1 : strings_TrimSuffix (c1.Line ++ u) [13] with
              | none => rw [h1] at hx6; cases hx6
              | some x =>
                rw [h1, Option.bind_some] at hx6
                rw [Option.bind_some]
                cases h2 : fOf c1 (S_chunk_state.mk (S_Chunked.mk c1.Stage [] c1.Left c1.Size) 0) x with
                | none => rw [h2] at hx6; cases hx6
                | some q => rw [h2] at hx6; cases hx6; exact ⟨rfl, rfl⟩
            rw [hF.1, Option.bind_some] at hrun
            have hul : i + u.length + 1 + r.length = t.length := by
              have := congrArg List.length hsp
              simp at this
              omega
            rcases hq with hq | ⟨_, _, q3, q4, q5⟩
            · have e2 : (x6.2.bad != (0 : Int)) = true := by simpa using hq
              rw [e2, cond_true]
              rw [e2, cond_true] at hrun
              refine .inr ⟨_, rfl, ?_⟩
              rw [hfin, hrun]; rfl
            · have e2 : (x6.2.bad != (0 : Int)) = false := by simp [q3]
              rw [e2, cond_false]
              rw [e2, cond_false] at hrun
              have ew : IntKind.i64.wrap ((i : Int) + x6.1) = ((i + u.length + 1 : Nat) : Int) := by rw [hF.2, wrap_i64 (by omega) (by omega)]; omega
              have hdr : t.drop (i + u.length + 1) = r := by
                rw [Nat.add_assoc, ← List.drop_drop, hsp]
                simp
              obtain ⟨y1, ⟨y2, y3⟩⟩ := x6
              simp only at q3 q4 q5 ew hrun
              subst q3
              refine .inl ⟨_, rfl, ⟨i + u.length + 1, y2, ew, by omega, rfl, q4, by show y2.Size = _; rw [q5]; exact h5⟩, ?_, ?_⟩
              · show t.length - (IntKind.i64.wrap ((i : Int) + y1)).toNat < t.length - ((i : Nat) : Int).toNat
                rw [ew]; omega
              · rw [hfin, hrun, map_bump, map_bump]
                show _ = ((cRun y2 (t.drop (IntKind.i64.wrap ((i : Int) + y1)).toNat)).map (bumpN d (IntKind.i64.wrap ((i : Int) + y1)).toNat)).map toF
                rw [ew, Int.toNat_natCast, hdr, List.append_nil, List.append_nil]
                have : 1 + (u.length + i) = i + u.length + 1 := by omega
                rw [this]
  · rw [decide_eq_false (show ¬ (i : Int) < (t.length : Int) by omega), cond_false]
    refine .inr ⟨_, by unfold bcat; rw [if_pos (by simp; omega)]; rfl, ?_⟩
    rw [hfin, show t.drop i = [] by simp; omega, cRun_nil]
    show some (c1, d ++ [], ((0 + i : Nat) : Int), (0 : Int)) = _
    simp
end Go.Proofs.YtpionnihpibglaaGreatDoor
namespace Go.Proofs.YtpionnihpibglaaGreatDoor
open Go Go.Pm
set_option linter.unusedSimpArgs false
set_option linter.unusedVariables false
set_option maxRecDepth 100000
/-! ### Lines -/
noncomputable def trimR (s : Bytes) : Bytes := (strings_TrimSuffix s [13]).getD []
theorem trimR_eq {s : Bytes} (hs : s.length ≤ maxLen) : strings_TrimSuffix s [13] = some (trimR s) := by
  obtain ⟨x, hx, _⟩ := TrimS_tot 13 hs
  unfold trimR
  rw [hx]; rfl
noncomputable def rowsA : Bytes → Nat → Bytes → List (Bytes × Int)
  | _, _, [] => []
  | acc, a, x :: s => bif x == 10 then (trimR acc, ((a + 1 : Nat) : Int)) :: rowsA [] (a + 1) s else rowsA (acc ++ [x]) (a + 1) s
theorem rowsA_nil (acc : Bytes) (a : Nat) : rowsA acc a [] = [] := by unfold rowsA; rfl
theorem rowsA_cons (acc : Bytes) (a : Nat) (x : UInt8) (s : Bytes) : rowsA acc a (x :: s) = bif x == 10 then (trimR acc, ((a + 1 : Nat) : Int)) :: rowsA [] (a + 1) s else rowsA (acc ++ [x]) (a + 1) s := by
  conv => lhs; unfold rowsA
theorem rowsA_line : ∀ (u acc : Bytes) (a : Nat) (r : Bytes), u.contains 10 = false → rowsA acc a (u ++ r) = rowsA (acc ++ u) (a + u.length) r
  | [], acc, a, r, _ => by simp
  | x :: u, acc, a, r, hu => by
    rw [List.contains_cons, Bool.or_eq_false_iff] at hu
    have hx : (x == 10) = false := by
      cases h : (x == 10) with
      | false => rfl
      | true => rw [eq_of_beq h] at hu; simp at hu
    rw [List.cons_append, rowsA_cons, hx, cond_false, rowsA_line u _ _ r hu.2]
    have e1 : acc ++ [x] ++ u = acc ++ x :: u := by simp
    have e2 : a + 1 + u.length = a + (x :: u).length := by simp; omega
    rw [e1, e2]
theorem rowsA_append : ∀ (s acc : Bytes) (a : Nat) (t : Bytes), ∃ acc', rowsA acc a (s ++ t) = rowsA acc a s ++ rowsA acc' (a + s.length) t
  | [], acc, a, t => ⟨acc, by rw [rowsA_nil]; rfl⟩
  | x :: s, acc, a, t => by
    have e2 : a + 1 + s.length = a + (x :: s).length := by simp; omega
    cases hx : (x == 10) with
    | true =>
      obtain ⟨acc', h⟩ := rowsA_append s [] (a + 1) t
      refine ⟨acc', ?_⟩
      rw [List.cons_append, rowsA_cons, rowsA_cons, hx, cond_true, cond_true, h, e2]
      rfl
    | false =>
      obtain ⟨acc', h⟩ := rowsA_append s (acc ++ [x]) (a + 1) t
      refine ⟨acc', ?_⟩
      rw [List.cons_append, rowsA_cons, rowsA_cons, hx, cond_false, cond_false, h, e2]
theorem rowsA_pos : ∀ (s acc : Bytes) (a : Nat) (x : Bytes × Int), x ∈ rowsA acc a s → (a : Int) < x.2
  | [], acc, a, x, h => by rw [rowsA_nil] at h; cases h
  | y :: s, acc, a, x, h => by
    rw [rowsA_cons] at h
    cases hy : (y == 10) with
    | true =>
      rw [hy, cond_true] at h
      rcases List.mem_cons.1 h with rfl | h
      · show (a : Int) < ((a + 1 : Nat) : Int); omega
      · have := rowsA_pos s [] (a + 1) x h; omega
    | false =>
      rw [hy, cond_false] at h
      have := rowsA_pos s _ (a + 1) x h; omega
theorem indexByte_at {u : Bytes} (r : Bytes) (hu : u.contains 10 = false) : Lib.indexByte (u ++ 10 :: r) 10 = (u.length : Int) := by
  induction u with
  | nil => simp [Lib.indexByte]
  | cons x u ih =>
    rw [List.contains_cons, Bool.or_eq_false_iff] at hu
    have hx : (x == 10) = false := by
      cases h : (x == 10) with
      | false => rfl
      | true => rw [eq_of_beq h] at hu; simp at hu
    show Lib.indexByte (x :: (u ++ 10 :: r)) 10 = _
    unfold Lib.indexByte
    rw [hx, ih hu.2]
    have : (((u.length : Nat) : Int) == -1) = false := by simp
    simp [this]
theorem items_eq {s : Bytes} (hs : s.length ≤ 1000000) : ∀ (k : Nat) (a : Nat), a ≤ s.length → s.length < k + a → head_items s k (a : Int) = some (rowsA [] a (s.drop a)) := by
  intro k
  induction k with
  | zero => intro a ha h; omega
  | succ k ih =>
    intro a ha h
    unfold head_items
    by_cases hd : a < s.length
    · rw [decide_eq_true (show (a : Int) < (s.length : Int) by omega), cond_true]
      have hsl : slc s (a : Int) (s.length : Int) = some (s.drop a) := by
        unfold slc
        rw [chk_pos (by omega)]
        show some ((s.drop a).take (s.length - a)) = _
        rw [List.take_of_length_le (by simp)]
      rw [hsl, Option.bind_some, IndexByte_eq, Option.bind_some, show u8 10 = (10 : UInt8) from rfl]
      have hxl : (s.drop a).length = s.length - a := by simp
      rcases cutC_parts 10 (s.drop a) with ⟨_, hno⟩ | ⟨u, r, _, hsp, hu⟩
      · have hn : Lib.indexByte (s.drop a) 10 = -1 := by
          have h1 := indexByte_has (s.drop a) 10
          have h2 := indexByte_range (s.drop a) 10
          rw [hno] at h1
          have h1 := of_decide_eq_false h1
          omega
        rw [hn]
        show some [] = some (rowsA [] a (s.drop a))
        have := rowsA_line (s.drop a) [] a [] hno
        rw [List.append_nil] at this
        rw [this, rowsA_nil]
      · have hn : Lib.indexByte (u ++ 10 :: r) 10 = (u.length : Int) := by
          exact indexByte_at r hu
        have hul : a + u.length + 1 + r.length = s.length := by
          have := congrArg List.length hsp
          simp at this
          omega
        have hdr : s.drop (a + u.length + 1) = r := by
          rw [Nat.add_assoc, ← List.drop_drop, hsp]
          simp
        have hus : slc s (a : Int) (((a + u.length : Nat)) : Int) = some u := by
          unfold slc
          rw [chk_pos (by omega)]
          show some ((s.drop a).take (a + u.length - a)) = _
          rw [hsp, Nat.add_sub_cancel_left]
          simp
        rw [hsp, hn, decide_eq_false (show ¬ ((u.length : Nat) : Int) < 0 by omega), cond_false]
        have w1 : IntKind.i64.wrap ((a : Int) + ((u.length : Nat) : Int)) = ((a + u.length : Nat) : Int) := by rw [wrap_i64 (by omega) (by omega)]; omega
        have w2 : IntKind.i64.wrap (((u.length : Nat) : Int) + 1) = ((u.length : Nat) : Int) + 1 := wrap_i64 (by omega) (by omega)
        have w3 : IntKind.i64.wrap ((a : Int) + (((u.length : Nat) : Int) + 1)) = ((a + u.length + 1 : Nat) : Int) := by rw [wrap_i64 (by omega) (by omega)]; omega
        rw [w1, w2, w3, hus, Option.bind_some, trimR_eq (by unfold maxLen; omega), Option.bind_some, ih (a + u.length + 1) (by omega) (by omega), Option.bind_some, hdr, rowsA_line u [] a _ hu, List.nil_append, rowsA_cons]
        rfl
    · rw [decide_eq_false (show ¬ (a : Int) < (s.length : Int) by omega), cond_false, show s.drop a = [] by simp; omega]
      rw [rowsA_nil]
noncomputable def endB (s : Bytes) : Int × Int := head_find s.length (rowsA [] 0 s)
theorem End_eq {s : Bytes} (hs : s.length ≤ 1000000) : head_End s = some (endB s) := by
  unfold head_End head_rows endB
  have := items_eq hs (s.length + 1) 0 (Nat.zero_le _) (by omega)
  rw [show head_items s (s.length + 1) 0 = some (rowsA [] 0 (s.drop 0)) from this]; rfl
theorem find_nil (n : Nat) : head_find n [] = bif decide ((n : Int) > 4000) then (0, 2) else (0, 3) := rfl
theorem find_cons (n : Nat) (line : Bytes) (a : Int) (l : List (Bytes × Int)) : head_find n ((line, a) :: l) = bif decide (a > 4000) then (0, 2) else bif line == [] then (a, 0) else head_find n l := rfl
theorem find_append (n n' : Nat) (hn : n ≤ n') (l' : List (Bytes × Int)) (hl : ∀ x, x ∈ l' → (n : Int) < x.2) (l : List (Bytes × Int)) (h : (head_find n l).2 ≠ 3) : head_find n' (l ++ l') = head_find n l := by
  induction l with
  | nil =>
    rw [find_nil] at h ⊢
    by_cases h4 : (n : Int) > 4000
    · rw [decide_eq_true h4, List.nil_append, cond_true]
      cases l' with
      | nil => rw [find_nil, decide_eq_true (by omega)]; rfl
      | cons x l' =>
        have := hl x (List.mem_cons_self ..)
        obtain ⟨x1, x2⟩ := x
        rw [find_cons, decide_eq_true (by simp only at this; omega)]; rfl
    · rw [decide_eq_false h4, cond_false] at h; exact absurd rfl h
  | cons x l ih =>
    obtain ⟨line, a⟩ := x
    rw [List.cons_append, find_cons, find_cons]
    rw [find_cons] at h
    cases h1 : decide (a > 4000) with
    | true => rw [cond_true, cond_true]
    | false =>
      rw [cond_false, cond_false]
      cases h2 : (line == []) with
      | true => rw [cond_true, cond_true]
      | false =>
        rw [h1, h2, cond_false, cond_false] at h
        rw [cond_false, cond_false]
        exact ih h
theorem endB_append {s : Bytes} (h : (endB s).2 ≠ 3) (t : Bytes) : endB (s ++ t) = endB s := by
  unfold endB at h ⊢
  obtain ⟨acc', h2⟩ := rowsA_append s [] 0 t
  rw [h2]
  refine find_append s.length _ (by simp) _ (fun x hx => ?_) _ h
  have := rowsA_pos t acc' _ x hx
  simpa using this
/-! ### What is skipped -/
def skipP : Bytes → Bytes
  | [] => []
  | x :: s => bif x == 10 then skipP s else bif x == 13 then (match s with | [] => [x] | y :: s' => bif y == 10 then skipP s' else x :: y :: s') else x :: s
theorem skipP_lf (s : Bytes) : skipP (10 :: s) = skipP s := by
  conv => lhs; unfold skipP
  rfl
theorem skipP_crlf (s : Bytes) : skipP (13 :: 10 :: s) = skipP s := by
  conv => lhs; unfold skipP
  rfl
theorem skipP_no {s : Bytes} (h1 : hasPre s [10] = false) (h2 : hasPre s [13, 10] = false) : skipP s = s := by
  rcases s with _ | ⟨x, s⟩
  · rfl
  · unfold skipP
    have hx : (x == 10) = false := by
      cases h : (x == 10) with
      | false => rfl
      | true => rw [eq_of_beq h] at h1; exact absurd h1 (by simp [hasPre])
    rw [hx, cond_false]
    cases h : (x == 13) with
    | false => rfl
    | true =>
      rw [cond_true]
      rcases s with _ | ⟨y, s⟩
      · rfl
      · have hy : (y == 10) = false := by
          cases h' : (y == 10) with
          | false => rfl
          | true => rw [eq_of_beq h, eq_of_beq h'] at h2; exact absurd h2 (by simp [hasPre])
        show (bif y == 10 then skipP s else x :: y :: s) = x :: y :: s
        rw [hy]; rfl
theorem pre_lf {s : Bytes} (h : hasPre s [10] = true) : ∃ t, s = 10 :: t := by
  unfold hasPre at h
  obtain ⟨t, rfl⟩ := List.isPrefixOf_iff_prefix.1 h
  exact ⟨t, rfl⟩
theorem pre_crlf {s : Bytes} (h : hasPre s [13, 10] = true) : ∃ t, s = 13 :: 10 :: t := by
  unfold hasPre at h
  obtain ⟨t, rfl⟩ := List.isPrefixOf_iff_prefix.1 h
  exact ⟨t, rfl⟩
theorem skipP_len : ∀ (n : Nat) (b : Bytes), b.length ≤ n → (skipP b).length ≤ b.length := by
  intro n
  induction n with
  | zero =>
    intro b hb
    have : b = [] := List.eq_nil_of_length_eq_zero (by omega)
    subst this; exact Nat.le_refl _
  | succ n ih =>
    intro b hb
    cases h1 : hasPre b [10] with
    | true =>
      obtain ⟨s, rfl⟩ := pre_lf h1
      simp only [List.length_cons] at hb
      rw [skipP_lf]
      have := ih s (by omega); simp; omega
    | false =>
      cases h2 : hasPre b [13, 10] with
      | true =>
        obtain ⟨s, rfl⟩ := pre_crlf h2
        simp only [List.length_cons] at hb
        rw [skipP_crlf]
        have := ih s (by omega); simp; omega
      | false => rw [skipP_no h1 h2]; exact Nat.le_refl _
def skB (a : Bool) (b : Bytes) : Bytes := bif a then skipP b else b
theorem skip_eq {w : S_wire_reading} (hb : w.Reader.Buf.length ≤ 50000) : loopO wire_reading_begin_b1 w = some (setBuf w (skB w.Reader.Asks w.Reader.Buf)) := by
  refine loop_opt (fun x : S_wire_reading => x.Reader.Buf.length) (fun x => x.Reader.Buf.length ≤ 50000) (fun x => some (setBuf x (skB x.Reader.Asks x.Reader.Buf))) (fun x hx => ?_) w hb
  unfold wire_reading_begin_b1
  suffices e : ∀ f : Option (S_wire_reading ⊕ S_wire_reading), f = skipB x x.Reader.Buf → ((∃ y, f = some (Sum.inl y) ∧ y.Reader.Buf.length ≤ 50000 ∧ y.Reader.Buf.length < x.Reader.Buf.length ∧ some (setBuf x (skB x.Reader.Asks x.Reader.Buf)) = some (setBuf y (skB y.Reader.Asks y.Reader.Buf))) ∨ ∃ r, f = some (Sum.inr r) ∧ some (setBuf x (skB x.Reader.Asks x.Reader.Buf)) = some r) from e _ rfl
  intro f hf
  subst hf
  unfold skipB
  cases hA : x.Reader.Asks with
  | false =>
    right
    rw [gcall_ff rfl, Option.bind_some, gcall_ff (show (false && !(default : Bool)) = false from rfl), Option.bind_some]
    exact ⟨_, rfl, rfl⟩
  | true =>
    have big : x.Reader.Buf.length ≤ maxLen := by unfold maxLen; omega
    show (∃ y, _ ∧ _ ∧ _ ∧ some (setBuf x (skipP x.Reader.Buf)) = some (setBuf y (skB y.Reader.Asks y.Reader.Buf))) ∨ ∃ r, _ ∧ some (setBuf x (skipP x.Reader.Buf)) = some r
    have hset : ∀ b : Bytes, skB (setBuf x b).Reader.Asks (setBuf x b).Reader.Buf = skipP b := fun b => by show skB x.Reader.Asks b = _; rw [hA]; rfl
    rw [gcall_tt rfl, HasPrefix_eq, Option.bind_some]
    cases h1 : hasPre x.Reader.Buf [10] with
    | true =>
      left
      rw [gcall_ff (show (true && !true) = false from rfl), Option.bind_some]
      have hl := hasPre_len h1
      obtain ⟨s, hs⟩ := pre_lf h1
      have h13 : hasPre x.Reader.Buf [13] = false := by rw [hs]; rfl
      show ∃ y, ((strings_TrimPrefix x.Reader.Buf ([13] : Bytes)).bind fun x5 => (strings_TrimPrefix x5 ([10] : Bytes)).bind fun x6 => some (Sum.inl (setBuf x x6))) = some (Sum.inl y) ∧ _
      rw [TrimP_eq big, h13, cond_false, Option.bind_some, TrimP_eq big, h1, cond_true, Option.bind_some]
      have hd : x.Reader.Buf.drop ([10] : Bytes).length = s := by rw [hs]; rfl
      rw [hd]
      have hsl : s.length + 1 = x.Reader.Buf.length := by rw [hs]; rfl
      refine ⟨_, rfl, by show s.length ≤ _; omega, by show s.length < _; omega, ?_⟩
      rw [hset, hs, skipP_lf]
      rfl
    | false =>
      rw [gcall_tt (show (true && !false) = true from rfl), HasPrefix_eq, Option.bind_some]
      cases h2 : hasPre x.Reader.Buf [13, 10] with
      | false =>
        right
        refine ⟨_, rfl, ?_⟩
        rw [skipP_no h1 h2]
      | true =>
        left
        obtain ⟨s, hs⟩ := pre_crlf h2
        have h13 : hasPre x.Reader.Buf [13] = true := by rw [hs]; rfl
        show ∃ y, ((strings_TrimPrefix x.Reader.Buf ([13] : Bytes)).bind fun x5 => (strings_TrimPrefix x5 ([10] : Bytes)).bind fun x6 => some (Sum.inl (setBuf x x6))) = some (Sum.inl y) ∧ _
        have hd : x.Reader.Buf.drop ([13] : Bytes).length = 10 :: s := by rw [hs]; rfl
        have hsl : s.length + 2 = x.Reader.Buf.length := by rw [hs]; rfl
        rw [TrimP_eq big, h13, cond_true, Option.bind_some, hd, TrimP_eq (by simp; omega), Option.bind_some, show hasPre (10 :: s) [10] = true from by unfold hasPre; simp [List.isPrefixOf], cond_true]
        refine ⟨_, rfl, by show s.length ≤ _; omega, by show s.length < _; omega, ?_⟩
        show _ = some (setBuf (setBuf x s) (skB (setBuf x s).Reader.Asks (setBuf x s).Reader.Buf))
        rw [hset, hs, skipP_crlf]
        rfl
noncomputable def begJ (j1 : S_wire_reading) : Option (Bool × S_wire_reading) := (head_End ((j1.Reader).Buf)).bind fun x7 =>
  bif ((x7.2) == (3 : Int)) then some (false, j1)
  else bif ((x7.2) != (0 : Int)) then (wire_reading_fail j1 (x7.2)).bind fun x8 => some ((x8.1), (x8.2))
  else (slc ((j1.Reader).Buf) 0 (x7.1)).bind fun x9 => (strings_Cut x9 ([10] : Bytes)).bind fun x10 =>
    bif (j1.Reader).Asks then begT start_Parse j1 (x7.1) x10 else begT start_Status j1 (x7.1) x10
theorem begin_J {w : S_wire_reading} (hb : w.Reader.Buf.length ≤ 50000) : wire_reading_begin w = begJ (setBuf w (skB w.Reader.Asks w.Reader.Buf)) := by
  rw [begin_eq, skip_eq hb, Option.bind_some]; rfl
theorem skB_len (a : Bool) (b : Bytes) : (skB a b).length ≤ b.length := by
  cases a with
  | true => exact skipP_len _ b (Nat.le_refl _)
  | false => exact Nat.le_refl _
end Go.Proofs.YtpionnihpibglaaGreatDoor
namespace Go.Proofs.YtpionnihpibglaaGreatDoor
open Go Go.Pm
set_option linter.unusedSimpArgs false
set_option linter.unusedVariables false
set_option maxRecDepth 100000
def plusM (h : S_Message) (b : Bytes) : S_Message := S_Message.mk h.Start h.Fields (h.Body ++ b)
def doneW (A : Bool) (M : Bytes) (b : Bytes) (h : S_Message) (O : List S_Message) : S_wire_reading := S_wire_reading.mk (S_Reader.mk A M b false zeroM (B 0 0) zeroC 0) (O ++ [h])
def inW (A : Bool) (M : Bytes) (b : Bytes) (h : S_Message) (bd : S_Body) (c : S_Chunked) (O : List S_Message) : S_wire_reading := S_wire_reading.mk (S_Reader.mk A M b true h bd c 0) O
def badW (A : Bool) (M : Bytes) (e : Int) (O : List S_Message) : S_wire_reading := S_wire_reading.mk (S_Reader.mk A M [] false zeroM (B 0 0) zeroC e) O
theorem more_none {A : Bool} {M b : Bytes} {h : S_Message} {c : S_Chunked} {O : List S_Message} (hO : O.length ≤ 1000000) : wire_reading_more (inW A M b h (B 0 0) c O) = some (true, doneW A M b h O) := by
  have e : wire_reading_more (inW A M b h (B 0 0) c O) = (wire_reading_whole (inW A M b h (B 0 0) c O)).bind fun x1 => some (x1.1, x1.2) := rfl
  rw [e, whole_eq hO, Option.bind_some]; rfl
theorem more_size {A : Bool} {M b : Bytes} {h : S_Message} {z : Int} {c : S_Chunked} {O : List S_Message} (n : Nat) (hz : z = (h.Body.length : Int) + n) (hz2 : z ≤ 20000) (hb : b.length ≤ 50000) (hO : O.length ≤ 1000000) :
    wire_reading_more (inW A M b h (B 1 z) c O) = bif decide (n ≤ b.length) then some (true, doneW A M (b.drop n) (plusM h (b.take n)) O) else some (false, inW A M [] (plusM h b) (B 1 z) c O) := by
  unfold wire_reading_more
  show ((slc b 0 (imin (b.length : Int) (IntKind.i64.wrap (z - (h.Body.length : Int))))).bind fun x2 => (cat h.Body x2).bind fun x3 => (slc b (imin (b.length : Int) (IntKind.i64.wrap (z - (h.Body.length : Int)))) (b.length : Int)).bind fun x4 => _) = _
  rw [wrap_i64 (by omega) (by omega)]
  obtain ⟨k, hk, hk1, hk2⟩ : ∃ k : Nat, imin (b.length : Int) (z - (h.Body.length : Int)) = (k : Int) ∧ k ≤ b.length ∧ (bif decide (n ≤ b.length) then k = n else k = b.length) := by
    rcases imin_cases (b.length : Int) (z - (h.Body.length : Int)) with ⟨h1, h2⟩ | ⟨h1, h2⟩
    · rw [h1]
      refine ⟨b.length, rfl, Nat.le_refl _, ?_⟩
      by_cases hd : n ≤ b.length
      · rw [decide_eq_true hd]; show b.length = n; omega
      · rw [decide_eq_false hd]; show b.length = b.length; rfl
    · rw [h1]
      refine ⟨n, by omega, by omega, ?_⟩
      rw [decide_eq_true (by omega)]; rfl
  rw [hk]
  have e1 : slc b 0 (k : Int) = some (b.take k) := by unfold slc; rw [chk_pos (by omega)]; simp
  have e2 : slc b (k : Int) (b.length : Int) = some (b.drop k) := by
    unfold slc
    rw [chk_pos (by omega)]
    show some ((b.drop k).take (b.length - k)) = _
    rw [List.take_of_length_le (by simp)]
  have e3 : cat h.Body (b.take k) = some (h.Body ++ b.take k) := by unfold cat; rw [chk_pos (by unfold maxLen; simp; omega)]
  rw [e1, Option.bind_some, e3, Option.bind_some, e2, Option.bind_some]
  have hlen : (h.Body ++ b.take k).length = h.Body.length + k := by simp; omega
  show (bif (((h.Body ++ b.take k).length : Int) == z) then _ else _) = _
  by_cases hd : n ≤ b.length
  · rw [decide_eq_true hd, cond_true]
    rw [decide_eq_true hd, cond_true] at hk2
    subst hk2
    have e : (((h.Body ++ b.take k).length : Int) == z) = true := by rw [hlen]; simp; omega
    rw [e, cond_true, whole_eq hO, Option.bind_some]
    show some ((bif (((h.Body ++ b.take k).length : Int) == z) then true else false), _) = _
    rw [e]
    rfl
  · rw [decide_eq_false hd, cond_false]
    rw [decide_eq_false hd, cond_false] at hk2
    subst hk2
    have e : (((h.Body ++ b.take b.length).length : Int) == z) = false := by rw [hlen]; simp; omega
    rw [e, cond_false, List.take_length, List.drop_length]
    rfl
theorem map_ne0 {d : Bytes} {n : Nat} {o : Option CR} (h : o ≠ some (.inl 0)) : o.map (bumpN d n) ≠ some (.inl 0) := by
  cases o with
  | none => simp
  | some x =>
    cases x with
    | inl e => exact h
    | inr r => intro h'; cases h'
theorem cRun_ne0 : ∀ (b : Bytes) (c : S_Chunked), cRun c b ≠ some (.inl 0)
  | [], c => by rw [cRun_nil]; intro h; cases h
  | x :: b, c => by
    by_cases h4 : c.Stage = 4
    · rw [cRun_done h4]; intro h; cases h
    by_cases h1 : c.Stage = 1
    · rw [cRun_dat1 h1]; exact map_ne0 (cRun_ne0 b _)
    cases hx : (x == 10) with
    | true =>
      rw [eq_of_beq hx, cRun_lf h1 h4]
      cases lineF c c.Line with
      | none => intro h; cases h
      | some st =>
        rw [Option.bind_some]
        cases hb : (st.bad != (0 : Int)) with
        | true =>
          intro h
          have h : st.bad = 0 := Sum.inl.inj (Option.some.inj h)
          rw [h] at hb; cases hb
        | false => rw [cond_false]; exact map_ne0 (cRun_ne0 b _)
    | false =>
      rw [cRun_one h1 h4 hx]
      cases decide (c.Line.length + 1 > 200) with
      | true => intro h; cases h
      | false => rw [cond_false]; exact map_ne0 (cRun_ne0 b _)
noncomputable def mcR (A : Bool) (M b : Bytes) (h : S_Message) (O : List S_Message) : CR → Bool × S_wire_reading
  | .inl e => (false, badW A M e O)
  | .inr r => bif r.1.Stage == (4 : Int) then (true, doneW A M (b.drop r.2.2) (plusM h r.2.1) O) else (false, inW A M (b.drop r.2.2) (plusM h r.2.1) (B 2 0) r.1 O)
theorem mcR_inr (A : Bool) (M b : Bytes) (h : S_Message) (O : List S_Message) (r : S_Chunked × Bytes × Nat) : mcR A M b h O (.inr r) = bif r.1.Stage == (4 : Int) then (true, doneW A M (b.drop r.2.2) (plusM h r.2.1) O) else (false, inW A M (b.drop r.2.2) (plusM h r.2.1) (B 2 0) r.1 O) := rfl
structure CROk (c : S_Chunked) (b : Bytes) (r : S_Chunked × Bytes × Nat) : Prop where
  ok : ChOk r.1
  took : r.2.2 ≤ b.length
  all : r.1.Stage ≠ 4 → r.2.2 = b.length
  size : r.1.Size = c.Size + (r.2.1.length : Int)
theorem cRun_tot {c : S_Chunked} {b : Bytes} (hc : ChOk c) (hb : b.length ≤ 1000000) : (∃ e, e ≠ 0 ∧ cRun c b = some (.inl e)) ∨ ∃ r, cRun c b = some (.inr r) ∧ CROk c b r := by
  obtain ⟨x, hx, hq⟩ := CFeed_tot hc hb
  rw [CFeed_eq hc hb] at hx
  cases hr : cRun c b with
  | none => rw [hr] at hx; cases hx
  | some y =>
    rw [hr] at hx
    have hx : toF y = x := Option.some.inj hx
    subst hx
    cases y with
    | inl e =>
      rcases hq with hq | hq
      · exact .inl ⟨e, hq, rfl⟩
      · by_cases h0 : e = 0
        · subst h0
          exfalso
          exact absurd hr (cRun_ne0 b c)
        · exact .inl ⟨e, h0, rfl⟩
    | inr r =>
      rcases hq with hq | hq
      · exact absurd rfl hq
      · exact .inr ⟨r, rfl, hq.ok, by have := hq.took.2; exact Int.ofNat_le.1 this, fun h => by have := hq.all h; exact Int.ofNat_inj.1 this, hq.size⟩
theorem more_chunk {A : Bool} {M b : Bytes} {h : S_Message} {c : S_Chunked} {O : List S_Message} (hc : ChOk c) (hs : c.Size = (h.Body.length : Int)) (hb : b.length ≤ 50000) (hO : O.length ≤ 1000000) :
    wire_reading_more (inW A M b h (B 2 0) c O) = (cRun c b).map (mcR A M b h O) := by
  unfold wire_reading_more
  show ((chunk_Feed c b).bind _) = _
  rw [CFeed_eq hc (by omega)]
  rcases cRun_tot (b := b) hc (by omega) with ⟨e, he, hr⟩ | ⟨r, hr, hq⟩
  · rw [hr]
    show ((some (toF (.inl e))).bind _) = _
    rw [Option.bind_some]
    have e1 : ((toF (.inl e)).2.2.2 != (0 : Int)) = true := by show (e != (0 : Int)) = true; simpa using he
    rw [e1, cond_true, fail_eq, Option.bind_some]
    rfl
  · rw [hr]
    show ((some (toF (.inr r))).bind _) = _
    rw [Option.bind_some]
    have e1 : ((toF (.inr r)).2.2.2 != (0 : Int)) = false := rfl
    have hsz := hq.size
    have hso := hq.ok.size
    have hcs := hc.size
    have e3 : cat h.Body r.2.1 = some (h.Body ++ r.2.1) := by unfold cat; rw [chk_pos (by unfold maxLen; omega)]
    have ht := hq.took
    have e2 : slc b (r.2.2 : Int) (b.length : Int) = some (b.drop r.2.2) := by
      unfold slc
      rw [chk_pos (by omega)]
      show some ((b.drop r.2.2).take (b.length - r.2.2)) = _
      rw [List.take_of_length_le (by simp)]
    rw [e1, cond_false]
    show ((cat h.Body r.2.1).bind _) = _
    rw [e3, Option.bind_some]
    show ((slc b (r.2.2 : Int) (b.length : Int)).bind _) = _
    rw [e2, Option.bind_some]
    show (bif (r.1.Stage == (4 : Int)) then _ else _) = some (bif r.1.Stage == (4 : Int) then _ else _)
    cases h4 : (r.1.Stage == (4 : Int)) with
    | true =>
      rw [cond_true, cond_true, whole_eq hO, Option.bind_some]
      show some ((bif r.1.Stage == (4 : Int) then true else false), _) = _
      rw [h4]
      rfl
    | false => rfl
theorem more_end {A : Bool} {M b : Bytes} {h : S_Message} {c : S_Chunked} {O : List S_Message} (hb : b.length ≤ 50000) (hl : h.Body.length ≤ 20000) :
    wire_reading_more (inW A M b h (B 3 0) c O) = some (bif decide (h.Body.length + b.length > 20000) then (false, badW A M 2 O) else (false, inW A M [] (plusM h b) (B 3 0) c O)) := by
  unfold wire_reading_more
  have e3 : cat h.Body b = some (h.Body ++ b) := by unfold cat; rw [chk_pos (by unfold maxLen; omega)]
  show ((cat h.Body b).bind _) = _
  rw [e3, Option.bind_some]
  have hlen : (h.Body ++ b).length = h.Body.length + b.length := by simp
  by_cases hd : h.Body.length + b.length > 20000
  · rw [decide_eq_true (show ((h.Body ++ b).length : Int) > 20000 by omega), decide_eq_true hd, cond_true, fail_eq, Option.bind_some]; rfl
  · rw [decide_eq_false (show ¬ ((h.Body ++ b).length : Int) > 20000 by omega), decide_eq_false hd, cond_false]; rfl
/-! ### One step -/
noncomputable def stepW (w : S_wire_reading) : Option (Bool × S_wire_reading) := bif w.Reader.In then wire_reading_more w else wire_reading_begin w
def outS (r : Bool × S_wire_reading) : S_wire_reading ⊕ (S_Reader × List S_Message × Int) := bif r.1 then .inl r.2 else .inr (r.2.Reader, r.2.out, 0)
theorem body_step (w : S_wire_reading) : wire_Feed_b1 w = (stepW w).map outS := by
  unfold wire_Feed_b1 stepW
  cases w.Reader.In with
  | true =>
    rw [cond_true, cond_true]
    cases wire_reading_more w with
    | none => rfl
    | some r => obtain ⟨r1, r2⟩ := r; cases r1 <;> rfl
  | false =>
    rw [cond_false, cond_false]
    cases wire_reading_begin w with
    | none => rfl
    | some r => obtain ⟨r1, r2⟩ := r; cases r1 <;> rfl
theorem WI.form {a : Bool} {m : Bytes} {w : S_wire_reading} (hw : WI a m w) (hin : w.Reader.In = true) : w = inW a m w.Reader.Buf w.Reader.Head w.Reader.Body w.Reader.Chunk w.out := by
  obtain ⟨⟨A, M, Bf, I, H, Bd, C, E⟩, O⟩ := w
  have h1 := hw.asks; have h2 := hw.meth; have h3 := hw.bad
  simp only at h1 h2 h3 hin
  subst h1 h2 h3 hin
  rfl
theorem WI.out {a : Bool} {m : Bytes} {w : S_wire_reading} (hw : WI a m w) : w.out.length ≤ 1000000 := by have := hw.cnt; omega
end Go.Proofs.YtpionnihpibglaaGreatDoor
namespace Go.Proofs.YtpionnihpibglaaGreatDoor
open Go Go.Pm
set_option linter.unusedSimpArgs false
set_option linter.unusedVariables false
set_option maxRecDepth 100000
theorem step_tot {a : Bool} {m : Bytes} {w : S_wire_reading} (hw : WI a m w) : Tot (stepW w) (MoreQ a m w) := by
  unfold stepW
  cases hin : w.Reader.In with
  | true => exact more_tot hw hin
  | false => exact begin_tot hw hin
theorem loop_step {w : S_wire_reading} {r : Bool × S_wire_reading} (h : stepW w = some r) : loopO wire_Feed_b1 w = bif r.1 then loopO wire_Feed_b1 r.2 else some (r.2.Reader, r.2.out, 0) := by
  rw [loopO_eq, body_step, h]
  obtain ⟨r1, r2⟩ := r
  cases r1 <;> rfl
def rplus (r : S_Reader) (t : Bytes) : S_Reader := S_Reader.mk r.Asks r.Method (r.Buf ++ t) r.In r.Head r.Body r.Chunk r.Bad
abbrev FR : Type := S_Reader × List S_Message × Int
/-! ### What is told -/
theorem begT_out {rd : Bytes → Option (S_Start × Int)} {j : S_wire_reading} {e : Int} {x : Bytes × Bytes × Bool} {r : Bool × S_wire_reading} (h : begT rd j e x = some r) : r.2.out = j.out := by
  have fin : ∀ (v : S_wire_reading) (e : Int), v.out = j.out → ((wire_reading_fail v e).bind fun x => some (x.1, x.2)) = some r → r.2.out = j.out := fun v e he h => by
    rw [fail_eq, Option.bind_some] at h
    cases h
    exact he
  unfold begT at h
  cases h11 : strings_TrimSuffix x.1 [13] with
  | none => rw [h11] at h; cases h
  | some x11 =>
    rw [h11, Option.bind_some] at h
    cases h12 : rd x11 with
    | none => rw [h12] at h; cases h
    | some x12 =>
      rw [h12, Option.bind_some] at h
      cases e12 : (x12.2 != (0 : Int)) with
      | true => rw [e12, cond_true] at h; exact fin _ _ rfl h
      | false =>
        rw [e12, cond_false] at h
        cases h14 : strings_TrimSuffix x.2.1 [10] with
        | none => rw [h14] at h; cases h
        | some x14 =>
          rw [h14, Option.bind_some] at h
          cases h15 : strings_TrimSuffix x14 [13] with
          | none => rw [h15] at h; cases h
          | some x15 =>
            rw [h15, Option.bind_some] at h
            cases h16 : head_Parse x15 with
            | none => rw [h16] at h; cases h
            | some x16 =>
              rw [h16, Option.bind_some] at h
              cases e16 : (x16.2 != (0 : Int)) with
              | true => rw [e16, cond_true] at h; exact fin _ _ rfl h
              | false =>
                rw [e16, cond_false] at h
                generalize wire_body _ = o at h
                cases o with
                | none => cases h
                | some x18 =>
                  rw [Option.bind_some] at h
                  cases e18 : (x18.2 != (0 : Int)) with
                  | true => rw [e18, cond_true] at h; exact fin _ _ rfl h
                  | false =>
                    rw [e18, cond_false] at h
                    generalize slc j.Reader.Buf e _ = o at h
                    cases o with
                    | none => cases h
                    | some x20 =>
                      rw [Option.bind_some] at h
                      generalize (bif (((x12.1).Code) != (0 : Int)) then (decide (((x12.1).Code) < (200 : Int))) else false) = q at h
                      cases q <;> (cases h; rfl)
theorem begJ_out {j : S_wire_reading} {r : Bool × S_wire_reading} (hl : j.Reader.Buf.length ≤ 1000000) (h : begJ j = some r) : r.2.out = j.out := by
  unfold begJ at h
  rw [End_eq hl, Option.bind_some] at h
  cases e3 : ((endB j.Reader.Buf).2 == (3 : Int)) with
  | true => rw [e3, cond_true] at h; cases h; rfl
  | false =>
  rw [e3, cond_false] at h
  cases e0 : ((endB j.Reader.Buf).2 != (0 : Int)) with
  | true =>
    rw [e0, cond_true, fail_eq, Option.bind_some] at h
    cases h
    rfl
  | false =>
    rw [e0, cond_false] at h
    cases h9 : slc j.Reader.Buf 0 (endB j.Reader.Buf).1 with
    | none => rw [h9] at h; cases h
    | some x9 =>
      rw [h9, Option.bind_some] at h
      cases h10 : strings_Cut x9 [10] with
      | none => rw [h10] at h; cases h
      | some x10 =>
        rw [h10, Option.bind_some] at h
        cases ha : j.Reader.Asks with
        | true => rw [ha] at h; exact begT_out h
        | false => rw [ha] at h; exact begT_out h
def pre (o : List S_Message) (w : S_wire_reading) : S_wire_reading := S_wire_reading.mk w.Reader (o ++ w.out)
def preP (o : List S_Message) (r : Bool × S_wire_reading) : Bool × S_wire_reading := (r.1, pre o r.2)
theorem begT_pre {rd : Bytes → Option (S_Start × Int)} {j : S_wire_reading} {e : Int} {x : Bytes × Bytes × Bool} (o : List S_Message) : begT rd (pre o j) e x = (begT rd j e x).map (preP o) := by
  obtain ⟨⟨A, M, Bf, I, H, Bd, C, E⟩, O⟩ := j
  unfold begT pre
  dsimp only
  cases strings_TrimSuffix x.1 [13] with
  | none => rfl
  | some x11 =>
    rw [Option.bind_some, Option.bind_some]
    cases rd x11 with
    | none => rfl
    | some x12 =>
      rw [Option.bind_some, Option.bind_some]
      cases (x12.2 != (0 : Int)) with
      | true => rfl
      | false =>
        rw [cond_false, cond_false]
        cases strings_TrimSuffix x.2.1 [10] with
        | none => rfl
        | some x14 =>
          rw [Option.bind_some, Option.bind_some]
          cases strings_TrimSuffix x14 [13] with
          | none => rfl
          | some x15 =>
            rw [Option.bind_some, Option.bind_some]
            cases head_Parse x15 with
            | none => rfl
            | some x16 =>
              rw [Option.bind_some, Option.bind_some]
              cases (x16.2 != (0 : Int)) with
              | true => rfl
              | false =>
                rw [cond_false, cond_false]
                cases wire_body (S_Reader.mk A M Bf I (S_Message.mk x12.1 x16.1 H.Body) Bd C E) with
                | none => rfl
                | some x18 =>
                  rw [Option.bind_some, Option.bind_some]
                  cases (x18.2 != (0 : Int)) with
                  | true => rfl
                  | false =>
                    rw [cond_false, cond_false]
                    cases slc Bf e (Bf.length : Int) with
                    | none => rfl
                    | some x20 =>
                    rw [Option.bind_some, Option.bind_some]
                    cases (bif (((x12.1).Code) != (0 : Int)) then (decide (((x12.1).Code) < (200 : Int))) else false) <;> rfl
theorem begJ_pre {j : S_wire_reading} (o : List S_Message) : begJ (pre o j) = (begJ j).map (preP o) := by
  unfold begJ
  show ((head_End j.Reader.Buf).bind _) = _
  cases head_End j.Reader.Buf with
  | none => rfl
  | some x7 =>
    rw [Option.bind_some, Option.bind_some]
    cases (x7.2 == (3 : Int)) with
    | true => rfl
    | false =>
      rw [cond_false, cond_false]
      cases (x7.2 != (0 : Int)) with
      | true => rfl
      | false =>
        rw [cond_false, cond_false]
        show ((slc j.Reader.Buf 0 x7.1).bind _) = _
        cases slc j.Reader.Buf 0 x7.1 with
        | none => rfl
        | some x9 =>
          rw [Option.bind_some, Option.bind_some]
          cases strings_Cut x9 [10] with
          | none => rfl
          | some x10 =>
            rw [Option.bind_some, Option.bind_some]
            show (bif j.Reader.Asks then _ else _) = _
            cases j.Reader.Asks with
            | true => exact begT_pre o
            | false => exact begT_pre o
def OutQ (w : S_wire_reading) (r : Bool × S_wire_reading) : Prop := r.2.out = w.out ∨ ∃ h, r.1 = true ∧ r.2.out = w.out ++ [h] ∧ FRow h.Fields
theorem more_pre {a : Bool} {m : Bytes} {w : S_wire_reading} {o : List S_Message} (hw : WI a m w) (hin : w.Reader.In = true) (ho : o.length + w.out.length ≤ 1000000) : wire_reading_more (pre o w) = (wire_reading_more w).map (preP o) ∧ ∀ r, wire_reading_more w = some r → OutQ w r := by
  have hO := hw.out
  have hr := hw.inn hin
  have hf := hw.form hin
  have hb := hw.buf
  generalize w.Reader.Buf = b at hf hb
  generalize w.out = O at hf hO ho
  generalize w.Reader.Head = h at hf hr
  generalize w.Reader.Body = bd at hf hr
  generalize w.Reader.Chunk = c at hf hr
  subst hf
  have hp : pre o (inW a m b h bd c O) = inW a m b h bd c (o ++ O) := rfl
  have hp2 : ∀ (b : Bytes) (h : S_Message) (bd : S_Body) (c : S_Chunked), pre o (inW a m b h bd c O) = inW a m b h bd c (o ++ O) := fun _ _ _ _ => rfl
  have hd : ∀ (b : Bytes) (h : S_Message), pre o (doneW a m b h O) = doneW a m b h (o ++ O) := fun b h => by unfold pre doneW; simp
  have hoo : (o ++ O).length ≤ 1000000 := by simp; omega
  have hdo : ∀ (b : Bytes) (h : S_Message), FRow h.Fields → OutQ (inW a m b h bd c O) (true, doneW a m b h O) := fun b h hf => .inr ⟨h, rfl, rfl, hf⟩
  rw [hp]
  rcases hr.kind.kind with rfl | ⟨z, hz0, hz1, rfl⟩ | rfl | rfl
  · rw [more_none hO, more_none hoo]
    refine ⟨by rw [← hd]; rfl, fun r hrr => ?_⟩
    cases hrr
    exact .inr ⟨h, rfl, rfl, hr.fields⟩
  · have hk1 : (h.Body.length : Int) ≤ z := hr.k1 rfl
    obtain ⟨n, hn⟩ : ∃ n : Nat, z = (h.Body.length : Int) + n := ⟨(z - (h.Body.length : Int)).toNat, by omega⟩
    rw [more_size n hn hz1 hb hO, more_size n hn hz1 hb hoo]
    cases decide (n ≤ b.length) with
    | true =>
      refine ⟨by rw [cond_true, cond_true, ← hd]; rfl, fun r hrr => ?_⟩
      cases hrr
      exact .inr ⟨_, rfl, rfl, hr.fields⟩
    | false =>
      refine ⟨rfl, fun r hrr => ?_⟩
      cases hrr
      exact .inl rfl
  · obtain ⟨g1, g2, g3⟩ := hr.k2 rfl
    rw [more_chunk g1 g3 hb hO, more_chunk g1 g3 hb hoo]
    refine ⟨?_, fun r hrr => ?_⟩
    · rw [Option.map_map]
      congr 1
      funext x
      cases x with
      | inl e => rfl
      | inr q =>
        show mcR a m b h (o ++ O) (.inr q) = preP o (mcR a m b h O (.inr q))
        rw [mcR_inr, mcR_inr]
        cases (q.1.Stage == (4 : Int)) with
        | true => rw [cond_true, cond_true, ← hd]; rfl
        | false => rfl
    · rcases cRun_tot (b := b) g1 (by omega) with ⟨e, he, hc⟩ | ⟨q, hc, hk⟩
      · rw [hc] at hrr
        cases hrr
        exact .inl rfl
      · rw [hc, Option.map_some, mcR_inr] at hrr
        cases h4 : (q.1.Stage == (4 : Int)) with
        | true => rw [h4, cond_true] at hrr; cases hrr; exact .inr ⟨_, rfl, rfl, hr.fields⟩
        | false => rw [h4, cond_false] at hrr; cases hrr; exact .inl rfl
  · have hk3 := hr.k3 rfl
    rw [more_end hb hk3, more_end hb hk3]
    cases decide (h.Body.length + b.length > 20000) with
    | true => exact ⟨rfl, fun r hrr => by cases hrr; exact .inl rfl⟩
    | false => exact ⟨rfl, fun r hrr => by cases hrr; exact .inl rfl⟩
theorem step_pre {a : Bool} {m : Bytes} {w : S_wire_reading} {o : List S_Message} (hw : WI a m w) (ho : o.length + w.out.length ≤ 1000000) : stepW (pre o w) = (stepW w).map (preP o) ∧ ∀ r, stepW w = some r → OutQ w r := by
  unfold stepW
  show (bif w.Reader.In then _ else _) = _ ∧ _
  cases hin : w.Reader.In with
  | true => exact more_pre hw hin ho
  | false =>
    rw [cond_false, cond_false]
    have hb := hw.buf
    rw [begin_J hb, begin_J (w := pre o w) hb]
    have hsl := skB_len w.Reader.Asks w.Reader.Buf
    exact ⟨begJ_pre (j := setBuf w (skB w.Reader.Asks w.Reader.Buf)) o, fun r hr => .inl (begJ_out (j := setBuf w (skB w.Reader.Asks w.Reader.Buf)) (by show (skB w.Reader.Asks w.Reader.Buf).length ≤ _; omega) hr)⟩
def preF (o : List S_Message) (r : FR) : FR := (r.1, o ++ r.2.1, r.2.2)
theorem feed_pre {a : Bool} {m : Bytes} {o : List S_Message} : ∀ (n : Nat) (w : S_wire_reading), mu w ≤ n → WI a m w → o.length + w.out.length + mu w ≤ 1000000 → loopO wire_Feed_b1 (pre o w) = (loopO wire_Feed_b1 w).map (preF o) := by
  intro n
  induction n with
  | zero =>
    intro w hn hw hl
    obtain ⟨r, hr, hq, _⟩ := step_tot hw
    obtain ⟨hp, _⟩ := step_pre (o := o) hw (by omega)
    rw [hr] at hp
    rw [loop_step hr, loop_step hp]
    cases h1 : r.1 with
    | true => have := (hq h1).2; omega
    | false =>
      show (bif r.1 then _ else _) = _
      rw [h1]; rfl
  | succ n ih =>
    intro w hn hw hl
    obtain ⟨r, hr, hq, _⟩ := step_tot hw
    obtain ⟨hp, hout⟩ := step_pre (o := o) hw (by omega)
    rw [hr] at hp
    rw [loop_step hr, loop_step hp]
    cases h1 : r.1 with
    | true =>
      obtain ⟨q1, q2⟩ := hq h1
      show (bif r.1 then loopO wire_Feed_b1 (pre o r.2) else _) = _
      rw [h1, cond_true, cond_true]
      refine ih r.2 (by omega) q1 ?_
      rcases hout r hr with h | ⟨h, _, h2, _⟩
      · rw [h]; omega
      · rw [h2]; simp; omega
    | false =>
      show (bif r.1 then _ else _) = _
      rw [h1]; rfl
structure FeedOk (a : Bool) (m : Bytes) (r : FR) : Prop where
  ok : XOk a m r.1
  err : r.2.2 = 0
  len : r.2.1.length ≤ 1000000
  rows : ∀ h, h ∈ r.2.1 → FRow h.Fields
theorem feed_all {a : Bool} {m : Bytes} {w : S_wire_reading} (hw : WI a m w) (hr : ∀ h, h ∈ w.out → FRow h.Fields) : Tot (loopO wire_Feed_b1 w) (FeedOk a m) := by
  refine loop_tot mu (fun x => WI a m x ∧ ∀ h, h ∈ x.out → FRow h.Fields) _ (fun x hx => ?_) w ⟨hw, hr⟩
  obtain ⟨hx, hrows⟩ := hx
  obtain ⟨r, hr, hq1, hq2⟩ := step_tot hx
  obtain ⟨_, hout⟩ := step_pre (o := []) hx (by have := hx.out; simpa using this)
  rw [body_step, hr]
  have hout := hout r hr
  have rows : ∀ h, h ∈ r.2.out → FRow h.Fields := by
    rcases hout with h | ⟨h, _, h2, h3⟩
    · rw [h]; exact hrows
    · rw [h2]
      intro y hy
      rcases List.mem_append.1 hy with hy | hy
      · exact hrows y hy
      · rw [List.mem_singleton.1 hy]; exact h3
  cases h1 : r.1 with
  | true =>
    left
    refine ⟨r.2, by rw [Option.map_some]; unfold outS; rw [h1]; rfl, ⟨(hq1 h1).1, rows⟩, (hq1 h1).2⟩
  | false =>
    right
    refine ⟨(r.2.Reader, r.2.out, 0), by rw [Option.map_some]; unfold outS; rw [h1]; rfl, hq2 h1, rfl, ?_, rows⟩
    rcases hout with h | ⟨h, h2, _⟩
    · show r.2.out.length ≤ _; rw [h]; exact hx.out
    · rw [h1] at h2; cases h2
theorem wfeed_eq {a : Bool} {m : Bytes} {r : S_Reader} {s : Bytes} (hr : XOk a m r) (h0 : r.Bad = 0) (hs : s.length ≤ 40000) : wire_Feed r s = loopO wire_Feed_b1 (S_wire_reading.mk (rplus r s) []) := by
  have hb := hr.buf
  unfold wire_Feed
  rw [hr.right, Option.bind_some, show (!true) = false from rfl, cond_false, h0, show ((0 : Int) != 0) = false from rfl, cond_false]
  have hc : cat r.Buf s = some (r.Buf ++ s) := by unfold cat; rw [chk_pos (by unfold maxLen; simp; omega)]
  rw [hc, Option.bind_some]
  unfold rplus
  rw [h0]
end Go.Proofs.YtpionnihpibglaaGreatDoor
namespace Go.Proofs.YtpionnihpibglaaGreatDoor
open Go Go.Pm
set_option linter.unusedSimpArgs false
set_option linter.unusedVariables false
set_option maxRecDepth 100000
def newR (a : Bool) (m : Bytes) : S_Reader := S_Reader.mk a m [] false zeroM (B 0 0) zeroC 0
theorem newR_ok (a : Bool) (m : Bytes) : XOk a m (newR a m) := .out [] (Nat.zero_le _)
end Go.Proofs.YtpionnihpibglaaGreatDoor
namespace Go.Proofs.YtpionnihpibglaaGreatDoor
open Go Go.Pm
set_option linter.unusedSimpArgs false
set_option linter.unusedVariables false
set_option maxRecDepth 100000
theorem TrimS_hit {s : Bytes} (c : UInt8) (hs : s.length + 1 ≤ maxLen) : strings_TrimSuffix (s ++ [c]) [c] = some s := by
  have ew : IntKind.i64.wrap (((s ++ [c]).length : Int) - ((([c] : Bytes).length : Nat) : Int)) = (s.length : Int) := by
    rw [wrap_i64 (by simp <;> omega) (by unfold maxLen at hs; simp <;> omega)]
    simp
  have hge : decide (((s ++ [c]).length : Int) ≥ ((([c] : Bytes).length : Nat) : Int)) = true := decide_eq_true (by simp; omega)
  have h1 : stringslite_HasSuffix (s ++ [c]) [c] = some true := by
    unfold stringslite_HasSuffix
    have e : gslc (decide (((s ++ [c]).length : Int) ≥ ((([c] : Bytes).length : Nat) : Int))) (s ++ [c]) (IntKind.i64.wrap (((s ++ [c]).length : Int) - ((([c] : Bytes).length : Nat) : Int))) ((s ++ [c]).length : Int) = some [c] := by
      unfold gslc
      rw [ew, chk_pos (fun _ => ⟨by omega, by simp; omega, Int.le_refl _⟩)]
      simp
    rw [e, Option.bind_some, hge]
    simp
  have h2 : stringslite_TrimSuffix (s ++ [c]) [c] = some s := by
    unfold stringslite_TrimSuffix
    rw [h1, Option.bind_some, cond_true, ew]
    have e : slc (s ++ [c]) 0 (s.length : Int) = some s := by
      unfold slc
      rw [chk_pos (by simp; omega)]
      simp
    rw [e]; rfl
  unfold strings_TrimSuffix
  rw [h2]; rfl
theorem trimR_hit {s : Bytes} (hs : s.length + 1 ≤ maxLen) : trimR (s ++ [13]) = s := by
  unfold trimR
  rw [TrimS_hit 13 hs]; rfl
theorem begJ_ok {A : Bool} {M b l r l' r1 r2 : Bytes} {O : List S_Message} {e : Nat} {f : Bool} {s : S_Start} {fs : List S_Field} {bd : S_Body}
    (hE : head_End b = some ((e : Int), 0)) (he : e ≤ b.length) (hC : strings_Cut (b.take e) [10] = some (l, r, f)) (h1 : strings_TrimSuffix l [13] = some l')
    (hr : (bif A then start_Parse l' else start_Status l') = some (s, 0)) (h2 : strings_TrimSuffix r [10] = some r1) (h3 : strings_TrimSuffix r1 [13] = some r2)
    (h4 : head_Parse r2 = some (fs, 0)) (h5 : bodyB A M (S_Message.mk s fs []) = (bd, 0)) (hs : SSmall s) (hf : FRow fs)
    (hcode : (bif (s.Code != (0 : Int)) then (decide (s.Code < (200 : Int))) else false) = false) :
    begJ (S_wire_reading.mk (S_Reader.mk A M b false zeroM (B 0 0) zeroC 0) O) = some (true, inW A M (b.drop e) (S_Message.mk s fs []) bd zeroC O) := by
  have key : ∀ rd : Bytes → Option (S_Start × Int), rd l' = some (s, 0) → begT rd (S_wire_reading.mk (S_Reader.mk A M b false zeroM (B 0 0) zeroC 0) O) (e : Int) (l, r, f) = some (true, inW A M (b.drop e) (S_Message.mk s fs []) bd zeroC O) := fun rd hrd => by
    unfold begT
    dsimp only
    rw [h1, Option.bind_some, hrd, Option.bind_some, show (((s, (0 : Int)) : S_Start × Int).2 != (0 : Int)) = false from rfl, cond_false, h2, Option.bind_some, h3, Option.bind_some, h4, Option.bind_some, show (((fs, (0 : Int)) : List S_Field × Int).2 != (0 : Int)) = false from rfl, cond_false]
    have hb : wire_body (S_Reader.mk A M b false (S_Message.mk s fs []) (B 0 0) zeroC 0) = some (bd, 0) := by rw [wbody_eq hs hf]; exact congrArg some h5
    show ((wire_body (S_Reader.mk A M b false (S_Message.mk s fs []) (B 0 0) zeroC 0)).bind _) = _
    rw [hb, Option.bind_some, show (((bd, (0 : Int)) : S_Body × Int).2 != (0 : Int)) = false from rfl, cond_false]
    have s1 : slc b (e : Int) (b.length : Int) = some (b.drop e) := by
      unfold slc
      rw [chk_pos (by omega)]
      show some ((b.drop e).take (b.length - e)) = _
      rw [List.take_of_length_le (by simp)]
    rw [s1, Option.bind_some, hcode]
    rfl
  unfold begJ
  dsimp only
  rw [hE, Option.bind_some, show (((e : Int), (0 : Int)).2 == (3 : Int)) = false from rfl, cond_false, show (((e : Int), (0 : Int)).2 != (0 : Int)) = false from rfl, cond_false]
  have s0 : slc b 0 (e : Int) = some (b.take e) := by unfold slc; rw [chk_pos (by omega)]; simp
  rw [s0, Option.bind_some, hC, Option.bind_some]
  cases A with
  | true => exact key start_Parse hr
  | false => exact key start_Status hr
theorem cut_at {u r : Bytes} (c : UInt8) (hu : u.contains c = false) : cutC c (u ++ c :: r) = (u, r, true) := by
  induction u with
  | nil => unfold cutC; simp
  | cons x u ih =>
    rw [List.contains_cons, Bool.or_eq_false_iff] at hu
    have hx : (x == c) = false := by
      cases h : (x == c) with
      | false => rfl
      | true => rw [eq_of_beq h] at hu; simp at hu
    show cutC c (x :: (u ++ c :: r)) = _
    unfold cutC
    rw [hx, ih hu.2]; rfl
def okL : Bytes := [72, 84, 84, 80, 47, 49, 46, 48, 32, 50, 48, 48, 32, 79, 75]
theorem stepW_in (A : Bool) (M b : Bytes) (h : S_Message) (bd : S_Body) (c : S_Chunked) (O : List S_Message) : stepW (inW A M b h bd c O) = wire_reading_more (inW A M b h bd c O) := rfl
/-! ### A head that tells its length -/
def lenH (d : Bytes) : Bytes := okL ++ [13] ++ 10 :: (nCL ++ 58 :: 32 :: d ++ [13] ++ 10 :: ([13] ++ 10 :: []))
theorem contains_append (s t : Bytes) (c : UInt8) : (s ++ t).contains c = (s.contains c || t.contains c) := by
  induction s with
  | nil => simp
  | cons x s ih => rw [List.cons_append, List.contains_cons, List.contains_cons, ih, Bool.or_assoc]
end Go.Proofs.YtpionnihpibglaaGreatDoor
namespace Go.Proofs.YtpionnihpibglaaGreatDoor
open Go Go.Pm
set_option linter.unusedSimpArgs false
set_option linter.unusedVariables false
set_option maxRecDepth 100000
theorem all_no {p : UInt8 → Bool} {c : UInt8} (hp : p c = false) : ∀ {s : Bytes}, s.all p = true → s.contains c = false
  | [], _ => rfl
  | x :: s, h => by
    rw [List.all_cons, Bool.and_eq_true] at h
    rw [List.contains_cons, all_no hp h.2]
    cases hx : (c == x) with
    | false => rfl
    | true => rw [eq_of_beq hx, h.1] at hp; cases hp
theorem any_no {p : UInt8 → Bool} {c : UInt8} (hp : p c = true) : ∀ {s : Bytes}, s.any p = false → s.contains c = false
  | [], _ => rfl
  | x :: s, h => by
    rw [List.any_cons, Bool.or_eq_false_iff] at h
    rw [List.contains_cons, any_no hp h.2]
    cases hx : (c == x) with
    | false => rfl
    | true => rw [eq_of_beq hx, h.1] at hp; cases hp
theorem trim_sp {v : Bytes} (h : trim v = v) : trim (32 :: v) = v := by
  rcases v.eq_nil_or_concat with rfl | ⟨d, x, hv⟩
  · rfl
  · rw [List.concat_eq_append] at hv
    have hb : blank x = false := by
      cases hb : blank x with
      | false => rfl
      | true =>
        exfalso
        have h1 : (trim v).length ≤ d.length := by
          unfold trim
          rw [hv, dropR_snoc, hb, cond_true]
          exact Nat.le_trans (dropL_le ..) (dropR_le ..)
        rw [h, hv] at h1
        simp at h1
        omega
    have h2 : dropR blank v = v := by rw [hv, dropR_snoc, hb]; rfl
    have h3 : dropL blank v = v := by
      unfold trim at h
      rw [h2] at h
      exact h
    unfold trim
    have e : (32 : UInt8) :: v = (32 :: d) ++ [x] := by rw [hv]; rfl
    rw [e, dropR_snoc, hb, cond_false, ← e]
    have : dropL blank (32 :: v) = dropL blank v := rfl
    rw [this, h3]
def lineOf (f : S_Field) : Bytes := f.Name ++ 58 :: 32 :: f.Value
def textOf : List S_Field → Bytes
  | [] => []
  | f :: l => lineOf f ++ [13] ++ 10 :: textOf l
theorem textOf_cons (f : S_Field) (l : List S_Field) : textOf (f :: l) = lineOf f ++ [13] ++ 10 :: textOf l := rfl
def headOf (l : Bytes) (fs : List S_Field) : Bytes := l ++ [13] ++ 10 :: (textOf fs ++ ([13] ++ 10 :: []))
structure MayF (f : S_Field) : Prop where
  name : tokenB f.Name = true
  tr : trim f.Value = f.Value
  len : f.Value.length ≤ 1000
  ctl : f.Value.any ctlB = false
theorem mayF {f : S_Field} (h : mayB f = true) : MayF f := by
  unfold mayB at h
  simp only [Bool.and_eq_true, Bool.not_eq_true', decide_eq_true_eq] at h
  exact ⟨h.1, eq_of_beq h.2.1, h.2.2.1, h.2.2.2⟩
theorem tok_all {s : Bytes} (h : tokenB s = true) : s.all wordB = true := by
  unfold tokenB at h
  rw [Bool.and_eq_true] at h
  exact h.2
theorem lineOf_no {f : S_Field} (h : MayF f) : (lineOf f ++ [13]).contains 10 = false := by
  unfold lineOf
  have e : f.Name ++ 58 :: 32 :: f.Value ++ [13] = f.Name ++ ([58, 32] ++ (f.Value ++ [13])) := by simp
  rw [e, contains_append, contains_append, contains_append, all_no (p := wordB) (c := 10) (by kernel_rfl) (tok_all h.name), any_no (p := ctlB) (c := 10) (by kernel_rfl) h.ctl]
  rfl
def rowsT (a : Nat) : List S_Field → List (Bytes × Int)
  | [] => []
  | f :: l => (lineOf f, ((a + (lineOf f).length + 2 : Nat) : Int)) :: rowsT (a + (lineOf f).length + 2) l
theorem rowsT_eq (r : Bytes) : ∀ (fs : List S_Field) (a : Nat), (∀ f, f ∈ fs → MayF f ∧ (lineOf f).length ≤ 1000000) → rowsA [] a (textOf fs ++ r) = rowsT a fs ++ rowsA [] (a + (textOf fs).length) r
  | [], a, _ => rfl
  | f :: l, a, h => by
    obtain ⟨h1, h2⟩ := h f (List.mem_cons_self ..)
    have e : textOf (f :: l) ++ r = (lineOf f ++ [13]) ++ 10 :: (textOf l ++ r) := by rw [textOf_cons]; simp
    have ht : trimR (lineOf f ++ [13]) = lineOf f := trimR_hit (by unfold maxLen; omega)
    have hl : a + (lineOf f ++ [13]).length + 1 = a + (lineOf f).length + 2 := by simp; omega
    rw [e, rowsA_line _ [] _ _ (lineOf_no h1), rowsA_cons, show ((10 : UInt8) == 10) = true from rfl, cond_true, List.nil_append, ht, hl, rowsT_eq r l _ (fun g hg => h g (List.mem_cons_of_mem _ hg))]
    have hl2 : a + (lineOf f).length + 2 + (textOf l).length = a + (textOf (f :: l)).length := by rw [textOf_cons]; simp; omega
    rw [hl2]
    rfl
theorem lineOf_ne {f : S_Field} : (lineOf f == ([] : Bytes)) = false := by
  unfold lineOf
  cases h : (f.Name ++ 58 :: 32 :: f.Value == ([] : Bytes)) with
  | false => rfl
  | true => have := eq_of_beq h; simp at this
theorem find_rowsT (n : Nat) (r : List (Bytes × Int)) : ∀ (fs : List S_Field) (a : Nat), a + (textOf fs).length ≤ 4000 → head_find n (rowsT a fs ++ r) = head_find n r
  | [], a, _ => rfl
  | f :: l, a, h => by
    have hl2 : a + (lineOf f).length + 2 + (textOf l).length = a + (textOf (f :: l)).length := by rw [textOf_cons]; simp; omega
    show head_find n ((lineOf f, ((a + (lineOf f).length + 2 : Nat) : Int)) :: (rowsT (a + (lineOf f).length + 2) l ++ r)) = _
    rw [find_cons, decide_eq_false (by omega), cond_false, lineOf_ne, cond_false]
    exact find_rowsT n r l _ (by omega)
theorem headOf_end {l : Bytes} {fs : List S_Field} (hl : l.contains 10 = false) (hne : l ≠ []) (hf : ∀ f, f ∈ fs → MayF f ∧ (lineOf f).length ≤ 1000000) (hlen : (headOf l fs).length ≤ 4000) : endB (headOf l fs) = ((((headOf l fs).length : Nat) : Int), 0) := by
  have hlen2 : (headOf l fs).length = l.length + 2 + (textOf fs).length + 2 := by unfold headOf; simp; omega
  have n1 : (l ++ [13]).contains 10 = false := by rw [contains_append, hl]; rfl
  have t1 : trimR (l ++ [13]) = l := trimR_hit (by unfold maxLen; omega)
  have t3 : trimR [13] = [] := by unfold trimR; rw [show strings_TrimSuffix [13] [13] = some [] by kernel_rfl]; rfl
  have hrows : rowsA [] 0 (headOf l fs) = (l, ((l.length + 2 : Nat) : Int)) :: (rowsT (l.length + 2) fs ++ [([], (((headOf l fs).length : Nat) : Int))]) := by
    unfold headOf
    have e1 : 0 + (l ++ [13]).length + 1 = l.length + 2 := by simp
    rw [rowsA_line (l ++ [13]) [] 0 _ n1, rowsA_cons, show ((10 : UInt8) == 10) = true from rfl, cond_true, List.nil_append, t1, e1, rowsT_eq _ fs _ hf, rowsA_line [13] [] _ _ (by rfl), rowsA_cons, show ((10 : UInt8) == 10) = true from rfl, cond_true, rowsA_nil, List.nil_append, t3]
    congr 1
    congr 1
    congr 1
    congr 1
    congr 1
    simp
    omega
  have hnb : (l == ([] : Bytes)) = false := by
    cases h : (l == ([] : Bytes)) with
    | false => rfl
    | true => exact absurd (eq_of_beq h) hne
  unfold endB
  rw [hrows, find_cons, decide_eq_false (by omega), cond_false, hnb, cond_false, find_rowsT _ _ fs _ (by omega), find_cons, decide_eq_false (by omega), cond_false]
  rfl
theorem rightB_all {l : List S_Field} (h : rightB l = true) : ∀ f, f ∈ l → mayB f = true := by
  unfold rightB at h
  rw [Bool.and_eq_true, List.all_eq_true] at h
  exact h.2
theorem rightB_len {l : List S_Field} (h : rightB l = true) : l.length ≤ 40 := by
  unfold rightB at h
  rw [Bool.and_eq_true] at h
  exact of_decide_eq_true h.1
theorem rightB_app {l m : List S_Field} (h : rightB (l ++ m) = true) : rightB l = true := by
  unfold rightB at h ⊢
  simp only [List.all_append, Bool.and_eq_true, decide_eq_true_eq, List.length_append] at h ⊢
  exact ⟨by omega, h.2.1⟩
theorem fold_text : ∀ (fs out : List S_Field) (a : Nat), rightB (out ++ fs) = true → (∀ f, f ∈ out ++ fs → f.Name.length ≤ 5000) → head_fold (rowsT a fs) out = some (out ++ fs, 0)
  | [], out, a, _, _ => by rw [List.append_nil]; rfl
  | f :: l, out, a, h, hn => by
    have hmem : f ∈ out ++ f :: l := by simp
    have hmay := rightB_all h f hmem
    have hm := mayF hmay
    have hfn := hn f hmem
    have hlen := rightB_len h
    have hcut : cutC 58 (f.Name ++ 58 :: (32 :: f.Value)) = (f.Name, 32 :: f.Value, true) := cut_at 58 (all_no (p := wordB) (by kernel_rfl) (tok_all hm.name))
    have hv := hm.len
    show head_fold ((lineOf f, _) :: rowsT _ l) out = _
    unfold head_fold
    unfold lineOf
    rw [Cut_one 58 (by simp; unfold maxLen; omega), hcut, Option.bind_some, Trim_eq (by simp; unfold maxLen; omega), Option.bind_some]
    show ((table_Add out f.Name (trim (32 :: f.Value))).bind _) = _
    rw [trim_sp hm.tr]
    have hrow : FRow out := ⟨by simp at hlen; omega, fun g hg => by
      have hg2 : g ∈ out ++ f :: l := List.mem_append_left _ hg
      have := hn g hg2
      have := (mayF (rightB_all h g hg2)).len
      omega⟩
    have hadd : addB out (S_Field.mk f.Name f.Value) = (out ++ [f], 0) := by
      unfold addB
      have hro := rightB_app h
      have hol : (out.length == 40) = false := by simp at hlen; simp; omega
      rw [hro, show mayB (S_Field.mk f.Name f.Value) = true from hmay, hol]; rfl
    rw [Add_eq hrow ⟨by show f.Name.length ≤ _; unfold maxLen; omega, by show f.Value.length ≤ _; unfold maxLen; omega⟩, Option.bind_some, hadd]
    show head_fold (rowsT _ l) (out ++ [f]) = _
    have e : out ++ [f] ++ l = out ++ f :: l := by simp
    rw [fold_text l (out ++ [f]) _ (by rw [e]; exact h) (by rw [e]; exact hn), e]
theorem parse_text {fs : List S_Field} (h : rightB fs = true) (hl : (textOf fs).length ≤ 4000) : head_Parse (textOf fs) = some (fs, 0) := by
  have hnames : ∀ (gs : List S_Field), (∀ f, f ∈ gs → f.Name.length ≤ (textOf gs).length) := by
    intro gs
    induction gs with
    | nil => intro f hf; cases hf
    | cons g gs ih =>
      intro f hf
      have e : (textOf (g :: gs)).length = g.Name.length + g.Value.length + 4 + (textOf gs).length := by rw [textOf_cons]; unfold lineOf; simp; omega
      rcases List.mem_cons.1 hf with rfl | hf
      · omega
      · have := ih f hf; omega
  have hlines : ∀ f, f ∈ fs → MayF f ∧ (lineOf f).length ≤ 1000000 := fun f hf => by
    have hm := mayF (rightB_all h f hf)
    have := hnames fs f hf
    have := hm.len
    exact ⟨hm, by unfold lineOf; simp; omega⟩
  have hrows : head_rows (textOf fs) = some (rowsT 0 fs) := by
    unfold head_rows
    have := items_eq (s := textOf fs) (by omega) ((textOf fs).length + 1) 0 (Nat.zero_le _) (by omega)
    have e := rowsT_eq [] fs 0 hlines
    rw [List.append_nil, rowsA_nil, List.append_nil] at e
    rw [show head_items (textOf fs) ((textOf fs).length + 1) 0 = some (rowsA [] 0 ((textOf fs).drop 0)) from this, List.drop_zero, e]
  have hfold := fold_text fs [] 0 (by simpa using h) (fun f hf => by have := hnames fs f (by simpa using hf); omega)
  rw [List.nil_append] at hfold
  unfold head_Parse
  rw [decide_eq_false (by omega), cond_false]
  rcases fs with _ | ⟨f, l⟩
  · rfl
  · have hlast : ∃ u, textOf (f :: l) = u ++ [10] := by
      clear hrows hfold hlines hnames h hl
      induction l generalizing f with
      | nil => exact ⟨lineOf f ++ [13], by rw [textOf_cons]; simp [textOf]⟩
      | cons g l ih =>
        obtain ⟨u, hu⟩ := ih g
        exact ⟨lineOf f ++ [13] ++ 10 :: u, by rw [textOf_cons, hu]; simp⟩
    obtain ⟨u, hu⟩ := hlast
    have hne : (textOf (f :: l) == ([] : Bytes)) = false := by
      cases he : (textOf (f :: l) == ([] : Bytes)) with
      | false => rfl
      | true => have := eq_of_beq he; rw [hu] at this; simp at this
    rw [hne]
    have hg : gidx true (textOf (f :: l)) (IntKind.i64.wrap (((textOf (f :: l)).length : Int) - 1)) = some 10 := by
      rw [gidx_tt rfl]
      have hul : (textOf (f :: l)).length = u.length + 1 := by rw [hu]; simp
      have e : IntKind.i64.wrap (((textOf (f :: l)).length : Int) - 1) = ((u.length : Nat) : Int) := by rw [wrap_i64 (by omega) (by omega)]; omega
      rw [e]
      exact idx_at (by rw [hu]; simp)
    show ((gidx true (textOf (f :: l)) (IntKind.i64.wrap (((textOf (f :: l)).length : Int) - 1))).bind _) = _
    rw [hg, Option.bind_some]
    show (bif (((10 : UInt8).toNat : Int) != 10) then _ else _) = _
    rw [show ((((10 : UInt8).toNat : Nat) : Int) != 10) = false from rfl, cond_false, hrows, Option.bind_some]
    exact hfold
theorem step_head {A : Bool} {M l x : Bytes} {s : S_Start} {fs : List S_Field} {bd : S_Body} {O : List S_Message} (hl : l.contains 10 = false) (hl2 : l.head? ≠ some 13) (hne : l ≠ []) (hr : rightB fs = true) (hlen : (headOf l fs).length ≤ 4000) (hx : x.length ≤ 40000)
    (hrd : (bif A then start_Parse l else start_Status l) = some (s, 0)) (hb : bodyB A M (S_Message.mk s fs []) = (bd, 0)) (hs : SSmall s) (hcode : (bif (s.Code != (0 : Int)) then (decide (s.Code < (200 : Int))) else false) = false) :
    stepW (S_wire_reading.mk (S_Reader.mk A M (headOf l fs ++ x) false zeroM (B 0 0) zeroC 0) O) = some (true, inW A M x (S_Message.mk s fs []) bd zeroC O) := by
  have hlen2 : (headOf l fs).length = l.length + 2 + (textOf fs).length + 2 := by unfold headOf; simp; omega
  have hlx : (headOf l fs ++ x).length ≤ 44000 := by rw [List.length_append]; omega
  have hnames : ∀ (gs : List S_Field), (∀ f, f ∈ gs → (lineOf f).length ≤ (textOf gs).length) := by
    intro gs
    induction gs with
    | nil => intro f hf; cases hf
    | cons g gs ih =>
      intro f hf
      have e : (textOf (g :: gs)).length = (lineOf g).length + 2 + (textOf gs).length := by rw [textOf_cons]; simp; omega
      rcases List.mem_cons.1 hf with rfl | hf
      · omega
      · have := ih f hf; omega
  have hlines : ∀ f, f ∈ fs → MayF f ∧ (lineOf f).length ≤ 1000000 := fun f hf => ⟨mayF (rightB_all hr f hf), by have := hnames fs f hf; omega⟩
  have hE := headOf_end hl hne hlines hlen
  have hE2 : head_End (headOf l fs ++ x) = some ((((headOf l fs).length : Nat) : Int), 0) := by
    rw [End_eq (by omega), endB_append (by rw [hE]; simp), hE]
  have hrow : FRow fs := ⟨by have := rightB_len hr; omega, fun f hf => by
    have h1 := hnames fs f hf
    have e : (lineOf f).length = f.Name.length + f.Value.length + 2 := by unfold lineOf; simp; omega
    omega⟩
  have hskip : skB A (headOf l fs ++ x) = headOf l fs ++ x := by
    cases A with
    | false => rfl
    | true =>
      obtain ⟨c, l', rfl⟩ : ∃ c l', l = c :: l' := by
        rcases l with _ | ⟨c, l'⟩
        · exact absurd rfl hne
        · exact ⟨c, l', rfl⟩
      have hc10 : ((10 : UInt8) == c) = false := by
        rw [List.contains_cons, Bool.or_eq_false_iff] at hl
        exact hl.1
      have hc13 : ((13 : UInt8) == c) = false := by
        cases h : ((13 : UInt8) == c) with
        | false => rfl
        | true => exact absurd (by rw [← eq_of_beq h]; rfl) hl2
      refine skipP_no ?_ ?_
      · show hasPre (c :: _) [10] = false
        unfold hasPre
        simp only [List.isPrefixOf, Bool.and_true]
        exact hc10
      · show hasPre (c :: _) [13, 10] = false
        unfold hasPre
        simp only [List.isPrefixOf]
        rw [hc13]; rfl
  have e0 : stepW (S_wire_reading.mk (S_Reader.mk A M (headOf l fs ++ x) false zeroM (B 0 0) zeroC 0) O) = wire_reading_begin (S_wire_reading.mk (S_Reader.mk A M (headOf l fs ++ x) false zeroM (B 0 0) zeroC 0) O) := rfl
  rw [e0, begin_J (by show (headOf l fs ++ x).length ≤ _; omega)]
  show begJ (S_wire_reading.mk (S_Reader.mk A M (skB A (headOf l fs ++ x)) false zeroM (B 0 0) zeroC 0) O) = _
  rw [hskip]
  have ht : (headOf l fs ++ x).take (headOf l fs).length = headOf l fs := by simp
  have hd : (headOf l fs ++ x).drop (headOf l fs).length = x := by simp
  have hC : strings_Cut (headOf l fs) [10] = some (l ++ [13], textOf fs ++ [13] ++ [10], true) := by
    rw [Cut_one 10 (by unfold maxLen; omega)]
    unfold headOf
    rw [cut_at 10 (u := l ++ [13]) (by rw [contains_append, hl]; rfl)]
    simp
  rw [begJ_ok (A := A) (s := s) hE2 (by rw [List.length_append]; omega) (by rw [ht]; exact hC) (TrimS_hit 13 (by unfold maxLen; omega)) hrd (TrimS_hit 10 (by rw [List.length_append]; unfold maxLen; simp; omega)) (TrimS_hit 13 (by unfold maxLen; omega)) (parse_text hr (by omega)) hb hs hrow hcode, hd]
end Go.Proofs.YtpionnihpibglaaGreatDoor
namespace Go.Proofs.YtpionnihpibglaaGreatDoor
open Go Go.Pm
set_option linter.unusedSimpArgs false
set_option linter.unusedVariables false
set_option maxRecDepth 100000
def outW (A : Bool) (M b : Bytes) (O : List S_Message) : S_wire_reading := S_wire_reading.mk (S_Reader.mk A M b false zeroM (B 0 0) zeroC 0) O
structure HeadOk (A : Bool) (M l : Bytes) (s : S_Start) (fs : List S_Field) (bd : S_Body) : Prop where
  no : l.contains 10 = false
  cr : l.head? ≠ some 13
  ne : l ≠ []
  right : rightB fs = true
  len : (headOf l fs).length ≤ 4000
  rd : (bif A then start_Parse l else start_Status l) = some (s, 0)
  body : bodyB A M (S_Message.mk s fs []) = (bd, 0)
  small : SSmall s
  code : (bif (s.Code != (0 : Int)) then (decide (s.Code < (200 : Int))) else false) = false
theorem feed_headOf {A : Bool} {M l x : Bytes} {s : S_Start} {fs : List S_Field} {bd : S_Body} {O : List S_Message} (h : HeadOk A M l s fs bd) (hx : x.length ≤ 40000) :
    loopO wire_Feed_b1 (outW A M (headOf l fs ++ x) O) = loopO wire_Feed_b1 (inW A M x (S_Message.mk s fs []) bd zeroC O) := by
  have hs := step_head (O := O) h.no h.cr h.ne h.right h.len hx h.rd h.body h.small h.code
  have := loop_step hs
  rw [cond_true] at this
  exact this
theorem feed_size {A : Bool} {M l b x : Bytes} {s : S_Start} {fs : List S_Field} {O : List S_Message} (h : HeadOk A M l s fs (B 1 (b.length : Int))) (hb : b.length ≤ 20000) (hx : b.length + x.length ≤ 40000) (hO : O.length ≤ 1000000) :
    loopO wire_Feed_b1 (outW A M (headOf l fs ++ (b ++ x)) O) = loopO wire_Feed_b1 (outW A M x (O ++ [S_Message.mk s fs b])) := by
  rw [feed_headOf h (by rw [List.length_append]; omega)]
  have hm : stepW (inW A M (b ++ x) (S_Message.mk s fs []) (B 1 (b.length : Int)) zeroC O) = some (true, outW A M x (O ++ [S_Message.mk s fs b])) := by
    rw [stepW_in, more_size b.length (by simp) (by omega) (by rw [List.length_append]; omega) hO, decide_eq_true (by simp), cond_true]
    unfold doneW outW plusM
    simp
  have := loop_step hm
  rw [cond_true] at this
  exact this
end Go.Proofs.YtpionnihpibglaaGreatDoor
namespace Go.Proofs.YtpionnihpibglaaGreatDoor
open Go Go.Pm
set_option linter.unusedSimpArgs false
set_option linter.unusedVariables false
set_option maxRecDepth 100000
def hexC (k : Nat) : UInt8 := bif decide (k < 10) then UInt8.ofNat (48 + k) else UInt8.ofNat (87 + k)
def hexL : Nat → Nat → List Nat
  | 0, _ => []
  | f + 1, n => bif decide (n < 16) then [n] else hexL f (n / 16) ++ [n % 16]
def hexD (n : Nat) : Bytes := (hexL 5 n).map hexC
def valN : Nat → List Nat → Nat
  | z, [] => z
  | z, k :: r => valN (z * 16 + k) r
theorem valN_le : ∀ (r : List Nat) (z : Nat), z ≤ valN z r
  | [], z => Nat.le_refl _
  | k :: r, z => Nat.le_trans (by omega) (valN_le r (z * 16 + k))
theorem valN_append : ∀ (r t : List Nat) (z : Nat), valN z (r ++ t) = valN (valN z r) t
  | [], t, z => rfl
  | k :: r, t, z => valN_append r t _
theorem hexL_ok : ∀ (f n : Nat), n < 16 ^ f → (∀ k, k ∈ hexL f n → k < 16) ∧ valN 0 (hexL f n) = n ∧ (hexL f n).length ≤ f
  | 0, n, h => ⟨fun k hk => (by cases hk), (by simp at h; subst h; rfl), Nat.le_refl _⟩
  | f + 1, n, h => by
    unfold hexL
    by_cases h16 : n < 16
    · rw [decide_eq_true h16, cond_true]
      exact ⟨fun k hk => by rw [List.mem_singleton.1 hk]; exact h16, by show 0 * 16 + n = n; omega, by simp⟩
    · rw [decide_eq_false h16, cond_false]
      obtain ⟨h1, h2, h3⟩ := hexL_ok f (n / 16) (by rw [Nat.pow_succ] at h; omega)
      refine ⟨fun k hk => ?_, ?_, by simp; omega⟩
      · rcases List.mem_append.1 hk with hk | hk
        · exact h1 k hk
        · rw [List.mem_singleton.1 hk]; omega
      · rw [valN_append, h2]
        show n / 16 * 16 + n % 16 = n
        omega
theorem hexL_ne : ∀ (f n : Nat), hexL (f + 1) n ≠ [] := fun f n h => by
  unfold hexL at h
  cases hd : decide (n < 16) <;> rw [hd] at h <;> simp at h
theorem hexC_all {p : Nat → UInt8 → Bool} (h : ((List.range 16).all fun k => p k (hexC k)) = true) {k : Nat} (hk : k < 16) : p k (hexC k) = true := List.all_eq_true.1 h k (List.mem_range.2 hk)
theorem hexC_val {k : Nat} (hk : k < 16) : number_ReadHex_1 (((hexC k).toNat : Nat) : Int) = some (k : Int) := by
  have := hexC_all (p := fun k c => match number_ReadHex_1 ((c.toNat : Nat) : Int) with | some v => v == (k : Int) | none => false) (by kernel_rfl) hk
  cases h : number_ReadHex_1 (((hexC k).toNat : Nat) : Int) with
  | none => simp only [h] at this; cases this
  | some v => simp only [h] at this; rw [eq_of_beq this]
theorem hex_loop {s : Bytes} (hs : s.length ≤ 1000) : ∀ (r : List Nat) (p z : Nat), s.drop p = r.map hexC → p ≤ s.length → (∀ k, k ∈ r → k < 16) → valN z r ≤ 1099511627776 →
    loopO (number_read_uint64_b1 s 16 (fun x0 => number_ReadHex_1 x0)) ((z : Int), false, (p : Int)) = some (((valN z r : Nat) : Int), (0 : Int))
  | [], p, z, hd, hp, _, _ => by
    have hp2 : s.length ≤ p := by
      have := congrArg List.length hd
      simp at this
      omega
    rw [loopO_eq]
    unfold number_read_uint64_b1
    dsimp only
    rw [decide_eq_false (show ¬ (p : Int) < (s.length : Int) by omega)]
    rfl
  | k :: r, p, z, hd, hp, hk, hv => by
    have hp2 : p < s.length := by
      have := congrArg List.length hd
      simp at this
      omega
    have hx : s[p]? = some (hexC k) := by
      have := congrArg (fun l : Bytes => l[0]?) hd
      simpa using this
    have hk0 := hk k (List.mem_cons_self ..)
    have hz : z * 16 + k ≤ 1099511627776 := Nat.le_trans (valN_le r _) hv
    rw [loopO_eq]
    unfold number_read_uint64_b1
    dsimp only
    rw [decide_eq_true (show (p : Int) < (s.length : Int) by omega), cond_true, idx_at hx, Option.bind_some, hexC_val hk0, Option.bind_some, decide_eq_false (show ¬ ((k : Int) ≥ 16) by omega), cond_false, wrap_i64 (by omega) (by omega)]
    have e1 : IntKind.u64.wrap ((z : Int) * 16) = (z : Int) * 16 := u64_id (by omega) (by omega)
    have e2 : IntKind.u64.wrap ((z : Int) * 16 + k) = ((z * 16 + k : Nat) : Int) := by rw [u64_id (by omega) (by omega)]; omega
    rw [e1, e2, decide_eq_false (show ¬ (((z * 16 + k : Nat) : Int) > 1099511627776) by omega)]
    have ih := hex_loop hs r (p + 1) (z * 16 + k) (by rw [← List.drop_drop, hd]; rfl) (by omega) (fun q hq => hk q (List.mem_cons_of_mem _ hq)) hv
    exact ih
theorem hexD_len {n : Nat} (h : n ≤ 20000) : 1 ≤ (hexD n).length ∧ (hexD n).length ≤ 5 := by
  unfold hexD
  rw [List.length_map]
  have := (hexL_ok 5 n (by omega)).2.2
  cases hl : hexL 5 n with
  | nil => exact absurd hl (hexL_ne 4 n)
  | cons a l => rw [hl] at this; simp at this ⊢; omega
theorem ReadHex_hexD {n : Nat} (h : n ≤ 20000) : number_ReadHex (hexD n) = some ((n : Int), 0) := by
  have hl := hexD_len h
  obtain ⟨h1, h2, h3⟩ := hexL_ok 5 n (by omega)
  have hlp := hex_loop (s := hexD n) (by omega) (hexL 5 n) 0 0 rfl (Nat.zero_le _) h1 (by rw [h2]; omega)
  rw [h2] at hlp
  have hne : (hexD n == ([] : Bytes)) = false := by
    cases he : (hexD n == ([] : Bytes)) with
    | false => rfl
    | true => rw [eq_of_beq he] at hl; simp at hl
  unfold number_ReadHex number_read_uint64
  rw [hne, cond_false]
  exact (congrArg (fun o : Option (Int × Int) => o.bind fun x => some (x.1, x.2)) hlp)
theorem hexD_no {p : UInt8 → Bool} (hp : ((List.range 16).all fun k => !p (hexC k)) = true) {n : Nat} (h : n ≤ 20000) : (hexD n).any p = false := by
  have h1 := (hexL_ok 5 n (by omega)).1
  cases ha : (hexD n).any p with
  | false => rfl
  | true =>
    obtain ⟨x, hx, hpx⟩ := List.any_eq_true.1 ha
    obtain ⟨k, hk, rfl⟩ := List.mem_map.1 hx
    have := hexC_all (p := fun _ c => !p c) hp (h1 k hk)
    simp only [hpx] at this
    cases this
theorem hexD_has {c : UInt8} (hp : ((List.range 16).all fun k => !(c == hexC k)) = true) {n : Nat} (h : n ≤ 20000) : (hexD n).contains c = false := by
  rw [List.contains_eq_any_beq]
  exact hexD_no hp h
/-! ### A chunk -/
def chEnd : Bytes := [48, 13, 10, 13, 10]
def encB0 (b : Bytes) : Bytes := bif b == [] then [] else hexD b.length ++ ([13, 10] ++ (b ++ [13, 10]))
theorem run_lf {c : S_Chunked} {u r : Bytes} {st : S_chunk_state} (h1 : c.Stage ≠ 1) (h4 : c.Stage ≠ 4) (hl : c.Line = []) (hu : u.contains 10 = false) (hul : u.length ≤ 100) (hf : fOf c (S_chunk_state.mk (S_Chunked.mk c.Stage [] c.Left c.Size) 0) u = some ((), st)) (hb : st.bad = 0) :
    cRun c (u ++ ([13, 10] ++ r)) = (cRun st.Chunked r).map (bumpN [] (u.length + 2)) := by
  have e : u ++ ([13, 10] ++ r) = (u ++ [13]) ++ 10 :: r := by simp
  have hlen : (u ++ [13]).length = u.length + 1 := by simp
  rw [e, cRun_line (u ++ [13]) c _ h1 h4 (by rw [contains_append, hu]; rfl) (by rw [hl]; simp), hl, decide_eq_false (by rw [hlen]; simp; omega), cond_false]
  have hL : (addL c (u ++ [13])).Line = u ++ [13] := by unfold addL; rw [hl]; rfl
  have hs1 : (addL c (u ++ [13])).Stage = c.Stage := rfl
  rw [cRun_lf (by rw [hs1]; exact h1) (by rw [hs1]; exact h4), hL]
  unfold lineF
  rw [TrimS_hit 13 (by unfold maxLen; omega), Option.bind_some]
  have hf2 : fOf (addL c (u ++ [13])) (S_chunk_state.mk (S_Chunked.mk (addL c (u ++ [13])).Stage [] (addL c (u ++ [13])).Left (addL c (u ++ [13])).Size) 0) u = some ((), st) := hf
  rw [hf2, Option.bind_some, Option.bind_some]
  show ((bif st.bad != (0 : Int) then some (.inl st.bad) else (cRun st.Chunked r).map (bumpN [] 1)).map _) = _
  rw [hb, show ((0 : Int) != 0) = false from rfl, cond_false, map_bump, hlen]
  congr 2
  omega
theorem size_hex {n k : Nat} (h : n ≤ 20000) (hk : n + k ≤ 20000) : chunk_state_size (S_chunk_state.mk (S_Chunked.mk 0 [] 0 (k : Int)) 0) (hexD n) = some ((), S_chunk_state.mk (bif (n : Int) == 0 then S_Chunked.mk 3 [] 0 (k : Int) else S_Chunked.mk 1 [] (n : Int) (k : Int)) 0) := by
  have hl := hexD_len h
  have hcut : cutC 59 (hexD n) = (hexD n, [], false) := by
    rcases cutC_parts 59 (hexD n) with ⟨h, _⟩ | ⟨u, r, h, e, _⟩
    · exact h
    · have := hexD_has (c := 59) (by kernel_rfl) (n := n) ‹_›
      rw [e, contains_append, List.contains_cons, show ((59 : UInt8) == 59) = true from rfl, Bool.true_or, Bool.or_true] at this
      cases this
  unfold chunk_state_size
  rw [Cut_one 59 (by unfold maxLen; omega), Option.bind_some, hcut]
  dsimp only
  rw [Trim_eq (by unfold maxLen; omega), Option.bind_some, trim_none (hexD_no (p := blank) (by kernel_rfl) h), ReadHex_hexD h, Option.bind_some]
  have ew : IntKind.u64.wrap (IntKind.i64.wrap ((20000 : Int) - (k : Int))) = 20000 - (k : Int) := by rw [wrap_i64 (by omega) (by omega), u64_id (by omega) (by omega)]
  dsimp only
  rw [ew, decide_eq_false (show ¬ ((n : Int) > 20000 - (k : Int)) by omega), wrap_i64 (show -9223372036854775808 ≤ (n : Int) by omega) (by omega)]
  cases hz : ((n : Int) == 0) <;> rfl
theorem fin_run (n : Nat) (hn : n ≤ 20000) (x : Bytes) : cRun (S_Chunked.mk 0 [] 0 (n : Int)) (chEnd ++ x) = some (.inr (S_Chunked.mk 4 [] 0 (n : Int), [], 5)) := by
  have e : chEnd ++ x = [48] ++ ([13, 10] ++ ([] ++ ([13, 10] ++ x))) := rfl
  have h0 : hexD 0 = [48] := by kernel_rfl
  have hs : chunk_state_size (S_chunk_state.mk (S_Chunked.mk 0 [] 0 (n : Int)) 0) [48] = some ((), S_chunk_state.mk (S_Chunked.mk 3 [] 0 (n : Int)) 0) := by
    have hs := size_hex (n := 0) (k := n) (by omega) (by omega)
    rw [h0] at hs
    rw [hs]; rfl
  rw [e, run_lf (c := S_Chunked.mk 0 [] 0 (n : Int)) (st := S_chunk_state.mk (S_Chunked.mk 3 [] 0 (n : Int)) 0) (u := [48]) (by simp) (by simp) rfl (by rfl) (by simp) hs rfl]
  rw [show (S_chunk_state.mk (S_Chunked.mk 3 [] 0 (n : Int)) 0).Chunked = S_Chunked.mk 3 [] 0 (n : Int) from rfl, run_lf (c := S_Chunked.mk 3 [] 0 (n : Int)) (st := S_chunk_state.mk (S_Chunked.mk 4 [] 0 (n : Int)) 0) (u := []) (by simp) (by simp) rfl (by rfl) (by simp) rfl rfl, cRun_done rfl]
  rfl
theorem enc_run {b : Bytes} (hb : b.length ≤ 20000) (x : Bytes) : cRun zeroC (encB0 b ++ (chEnd ++ x)) = some (.inr (S_Chunked.mk 4 [] 0 (b.length : Int), b, (encB0 b).length + 5)) := by
  unfold encB0
  cases hn : (b == ([] : Bytes)) with
  | true =>
    rw [eq_of_beq hn]
    exact fin_run 0 (by omega) x
  | false =>
    rw [cond_false]
    have hne : b ≠ [] := fun h => by rw [h] at hn; cases hn
    have hl : 1 ≤ b.length := by cases b with | nil => exact absurd rfl hne | cons a l => simp
    have e : hexD b.length ++ ([13, 10] ++ (b ++ [13, 10])) ++ (chEnd ++ x) = hexD b.length ++ ([13, 10] ++ (b ++ ([] ++ ([13, 10] ++ (chEnd ++ x))))) := by simp
    have hd := hexD_len hb
    have hs := size_hex (n := b.length) (k := 0) hb (by omega)
    rw [show (((b.length : Nat) : Int) == 0) = false by simp; omega, cond_false] at hs
    rw [e, run_lf (c := zeroC) (st := S_chunk_state.mk (S_Chunked.mk 1 [] (b.length : Int) 0) 0) (u := hexD b.length) (by simp [zeroC]) (by simp [zeroC]) rfl (hexD_has (by kernel_rfl) hb) (by omega) hs rfl]
    rw [show (S_chunk_state.mk (S_Chunked.mk 1 [] (b.length : Int) 0) 0).Chunked = S_Chunked.mk 1 [] (b.length : Int) 0 from rfl, cRun_data b (S_Chunked.mk 1 [] (b.length : Int) 0) _ rfl hne (Int.le_refl _)]
    have hdat : dat (S_Chunked.mk 1 [] (b.length : Int) 0) b.length = S_Chunked.mk 2 [] 0 (b.length : Int) := by
      unfold dat
      show (bif (b.length : Int) - (b.length : Int) == 0 then S_Chunked.mk 2 [] ((b.length : Int) - (b.length : Int)) (0 + (b.length : Int)) else _) = _
      rw [Int.sub_self, Int.zero_add]; rfl
    rw [hdat, run_lf (c := S_Chunked.mk 2 [] 0 (b.length : Int)) (st := S_chunk_state.mk (S_Chunked.mk 0 [] 0 (b.length : Int)) 0) (u := []) (by simp) (by simp) rfl (by rfl) (by simp) rfl rfl]
    rw [show (S_chunk_state.mk (S_Chunked.mk 0 [] 0 (b.length : Int)) 0).Chunked = S_Chunked.mk 0 [] 0 (b.length : Int) from rfl, fin_run b.length hb x]
    simp only [Option.map_some, bumpN, List.append_nil, List.nil_append]
    congr 4
    simp
    omega
theorem feed_chunks {A : Bool} {M l b x : Bytes} {s : S_Start} {fs : List S_Field} {O : List S_Message} (h : HeadOk A M l s fs (B 2 0)) (hb : b.length ≤ 20000) (hx : (encB0 b).length + 5 + x.length ≤ 40000) (hO : O.length ≤ 1000000) :
    loopO wire_Feed_b1 (outW A M (headOf l fs ++ (encB0 b ++ (chEnd ++ x))) O) = loopO wire_Feed_b1 (outW A M x (O ++ [S_Message.mk s fs b])) := by
  have hlen : (encB0 b ++ (chEnd ++ x)).length = (encB0 b).length + 5 + x.length := by simp [chEnd]; omega
  rw [feed_headOf h (by omega)]
  have hm : stepW (inW A M (encB0 b ++ (chEnd ++ x)) (S_Message.mk s fs []) (B 2 0) zeroC O) = some (true, outW A M x (O ++ [S_Message.mk s fs b])) := by
    rw [stepW_in, more_chunk zeroC_ok rfl (by omega) hO, enc_run hb]
    have hdr : (encB0 b ++ (chEnd ++ x)).drop ((encB0 b).length + 5) = x := by
      rw [← List.drop_drop, List.drop_left]
      rfl
    show some (mcR A M _ _ O (.inr (S_Chunked.mk 4 [] 0 (b.length : Int), b, (encB0 b).length + 5))) = _
    unfold mcR
    dsimp only
    rw [hdr]
    rfl
  have := loop_step hm
  rw [cond_true] at this
  exact this
end Go.Proofs.YtpionnihpibglaaGreatDoor
namespace Go.Proofs.YtpionnihpibglaaGreatDoor
open Go Go.Pm
set_option linter.unusedSimpArgs false
set_option linter.unusedVariables false
theorem refLower_eq {s : Bytes} (hs : s.length ≤ maxLen) : intarsiaref03_Lower s = some (lower s) := by
  unfold intarsiaref03_Lower
  have hfold : ∀ (l acc : Bytes), foldE (ρ := Bytes) (fun a b => .inl (a ++ [lowB b])) (fun a => a) l acc = acc ++ lower l := by
    intro l
    induction l with
    | nil => intro acc; simp [foldE, lower]
    | cons x l ih =>
      intro acc
      show foldE _ _ l (acc ++ [lowB x]) = _
      rw [ih]; simp [lower]
  have key := loop_list (body := intarsiaref03_Lower_b1 s) s (fun i b => (b, (i : Int))) (fun a b => .inl (a ++ [lowB b])) (fun a => a) (fun i b => b.length = i) (fun i b x hx hi => ?_) (fun b hi => ?_) [] rfl
  · rw [show (([] : Bytes), (0 : Int)) = (([] : Bytes), ((0 : Nat) : Int)) from rfl, key, hfold]; rfl
  · have hlt := lt_of_get hx
    refine .inl ⟨_, rfl, ?_, by simp [hi]⟩
    unfold intarsiaref03_Lower_b1
    dsimp only
    rw [dlt_true hlt, cond_true, idx_at hx, Option.bind_some, cat_ok (by simp; omega), cat_ok (by simp; omega), Option.bind_some, Option.bind_some, wrap_inc hlt hs, u8_nat]
    have h2 := low2 x
    cases hc : (bif (decide ((x.toNat : Int) ≥ (65 : Int))) then (decide ((x.toNat : Int) ≤ (90 : Int))) else false) with
    | true => rw [hc, cond_true] at h2; rw [cond_true, h2]
    | false => rw [hc, cond_false] at h2; rw [cond_false, ← h2]
  · unfold intarsiaref03_Lower_b1
    dsimp only
    rw [dlt_self]; rfl
theorem refSame_eq {s t : Bytes} (hs : s.length ≤ maxLen) (ht : t.length ≤ maxLen) : intarsiaref04_same s t = some (lower s == lower t) := by
  unfold intarsiaref04_same
  rw [refLower_eq hs, Option.bind_some, refLower_eq ht]; rfl
theorem refRemove_eq {l : List S_Field} {n : Bytes} (hl : l.length ≤ 1000000) (h : ∀ f, f ∈ l → FSmall f) (hn : n.length ≤ maxLen) : intarsiaref04_Remove l n = some (l.filter fun f => !isN n f) := by
  unfold intarsiaref04_Remove
  have key := loop_list (body := intarsiaref04_Remove_b1 l n) l (fun i b => (b, (i : Int))) (fun a x => .inl (bif !isN n x then a ++ [x] else a)) (fun a => a) (fun i b => b.length ≤ i) (fun i b x hx hi => ?_) (fun b hi => ?_) [] (Nat.le_refl _)
  · rw [show (([] : List S_Field), (0 : Int)) = (([] : List S_Field), ((0 : Nat) : Int)) from rfl, key, filter_fold]; rfl
  · have hlt := lt_of_get hx
    refine .inl ⟨_, rfl, ?_, ?_⟩
    · unfold intarsiaref04_Remove_b1
      dsimp only
      rw [dlt_true hlt, cond_true, idx_at hx, Option.bind_some, refSame_eq (h x (List.mem_of_getElem? hx)).name hn, Option.bind_some, wrap_inc hlt (mul32 hl), app_ok (by simp; omega) (by omega), Option.bind_some]
      show _ = some (Sum.inl ((bif !isN n x then _ else _), _))
      unfold isN
      cases (lower x.Name == lower n) <;> rfl
    · cases isN n x <;> simp <;> omega
  · unfold intarsiaref04_Remove_b1
    dsimp only
    rw [dlt_self]; rfl
theorem refRem2 {l : List S_Field} (h : FRow l) : (intarsiaref04_Remove l [99, 111, 110, 116, 101, 110, 116, 45, 108, 101, 110, 103, 116, 104]) = some (l.filter fun f => !isN nCL' f) ∧ (intarsiaref04_Remove (l.filter fun f => !isN nCL' f) [116, 114, 97, 110, 115, 102, 101, 114, 45, 101, 110, 99, 111, 100, 105, 110, 103]) = some (rest l) := by
  have hl := h.len
  refine ⟨refRemove_eq (by omega) h.small (big (by decide)), ?_⟩
  have h2 := h.filter fun f => !isN nCL' f
  have hl2 := h2.len
  exact refRemove_eq (by omega) h2.small (big (by decide))
theorem Dec_eq (n : Nat) (hn : n < 18446744073709551616) : number_Dec (n : Int) = some (Lib.decDigits n) := by
  unfold number_Dec strconv_FmtU strconv_FormatUint
  rw [show ((10 : Int) == 10) = true from rfl, cond_true, chk_pos ⟨rfl, by omega, by omega⟩]
  rfl
theorem Remove_eq {l : List S_Field} {n : Bytes} (hl : l.length ≤ 1000000) (h : ∀ f, f ∈ l → FSmall f) (hn : n.length ≤ maxLen) : table_Remove l n = some (l.filter fun f => !isN n f) := by
  unfold table_Remove table_named
  rw [Option.bind_some, keep_eq (fun f => !isN n f) (fun f hf => ?_) hl, Option.bind_some]
  unfold table_Remove_1 table_named_1
  dsimp only
  rw [Same_eq (h f hf).name hn]
  rfl
theorem rem_rest {l : List S_Field} (h : FRow l) : (table_Remove l nCL) = some (l.filter fun f => !isN nCL' f) ∧ (table_Remove (l.filter fun f => !isN nCL' f) nTE) = some (rest l) := by
  have hl := h.len
  have h2 := h.filter fun f => !isN nCL' f
  have hl2 := h2.len
  refine ⟨?_, ?_⟩
  · rw [Remove_eq (by omega) h.small (big (by decide)), isN_low (show lower nCL = lower nCL' by kernel_rfl)]
  · rw [Remove_eq (by omega) h2.small (big (by decide)), isN_low (show lower nTE = lower nTE' by kernel_rfl)]; rfl
theorem With_eq {l : List S_Field} {b : S_Body} (h : FRow l) : frame_With l b = some (withB l b) := by
  have hl := h.len
  unfold frame_With withB
  rw [Right_eq (big (by omega)) h.small, Option.bind_some]
  cases hr : rightB l with
  | false => rfl
  | true =>
    cases h1 : decide (b.Size < 0) with
    | true => rfl
    | false =>
      cases h2 : decide (b.Size > 20000) with
      | true => rfl
      | false =>
        cases h3 : decide (b.Kind < 0) with
        | true => rfl
        | false =>
          cases h4 : decide (b.Kind > 3) with
          | true => rfl
          | false =>
            simp only [Bool.not_true, cond_false, cond_true, Bool.or_false, Bool.false_or]
            have hs0 : 0 ≤ b.Size := by simpa using h1
            have hs1 : b.Size ≤ 20000 := by simpa using h2
            have r1 := (rem_rest h).1
            have r2 := (rem_rest h).2
            unfold nCL at r1
            unfold nTE at r2
            rw [r1, Option.bind_some, r2, Option.bind_some]
            have hf := fld_small b hs1
            unfold fld at hf ⊢
            cases hk : (b.Kind == 1) with
            | true =>
              rw [hk] at hf
              simp only [cond_true] at hf ⊢
              rw [wrap_u64 hs0 (by omega)]
              have e : b.Size = ((b.Size.toNat : Nat) : Int) := by omega
              rw [e, Dec_eq _ (by omega), Option.bind_some, Int.toNat_natCast]
              have ha := Add_eq (rest_row h) hf
              unfold nCL at ha
              rw [ha]
              rfl
            | false =>
              rw [hk] at hf
              simp only [cond_false] at hf ⊢
              cases hk2 : (b.Kind == 2) with
              | true =>
                simp only [cond_true]
                have ha := Add_eq (rest_row h) hf
                unfold nTE chunked at ha
                rw [ha]
                rfl
              | false => rfl
theorem Print_eq {s : S_Start} (h : SSm s) : start_Print s = some (bif startB s then (printB s, 0) else ([], 1)) := by
  unfold start_Print
  rw [sRight_eq h.small, Option.bind_some]
  cases hs : startB s with
  | false => rfl
  | true =>
    have hm := startB_minor hs
    have hc := startB_code hs
    have hd : number_Dec (IntKind.u64.wrap s.Minor) = some (Lib.decDigits s.Minor.toNat) := by
      rw [wrap_u64 (by omega) (by omega), show s.Minor = (s.Minor.toNat : Int) by omega]
      exact Dec_eq _ (by omega)
    rw [hd, Option.bind_some, cat_ok (by have := digits_len (n := s.Minor.toNat) (by omega); unfold maxLen; show 7 + _ ≤ _; omega), Option.bind_some]
    have hv := ver_len hm
    show (bif (!true) then _ else (bif s.Code == 0 then (strings_Join [s.Method, s.Target, ver s.Minor.toNat] [32]).bind _ else (number_Dec (IntKind.u64.wrap s.Code)).bind fun x5 => (strings_Join [ver s.Minor.toNat, x5, s.Reason] [32]).bind _)) = some (printB s, 0)
    unfold printB
    cases hc0 : (s.Code == 0) with
    | true =>
      rw [cond_true, cond_true]
      unfold strings_Join
      rw [join3, chk_pos ⟨by show 3 ≤ _; omega, by have := h.method; have := h.target; simp; omega⟩]
      rfl
    | false =>
      rw [cond_false, cond_false]
      have hc' : 100 ≤ s.Code ∧ s.Code ≤ 599 := by rcases hc with h | h; · rw [h] at hc0; cases hc0
                                                   · exact h
      have hd2 : number_Dec (IntKind.u64.wrap s.Code) = some (Lib.decDigits s.Code.toNat) := by
        rw [wrap_u64 (by omega) (by omega)]
        have := Dec_eq s.Code.toNat (by omega)
        rwa [show ((s.Code.toNat : Nat) : Int) = s.Code by omega] at this
      rw [hd2, Option.bind_some]
      unfold strings_Join
      have := digits_len (n := s.Code.toNat) (by omega)
      rw [join3, chk_pos ⟨by show 3 ≤ _; omega, by have := h.reason; simp; omega⟩]
      rfl
end Go.Proofs.YtpionnihpibglaaGreatDoor
namespace Go.Proofs.YtpionnihpibglaaGreatDoor
open Go Go.Pm
set_option linter.unusedSimpArgs false
set_option linter.unusedVariables false
set_option maxRecDepth 100000
/-! ### Hexadecimal digits -/
def digs36 : Bytes := [48, 49, 50, 51, 52, 53, 54, 55, 56, 57, 97, 98, 99, 100, 101, 102, 103, 104, 105, 106, 107, 108, 109, 110, 111, 112, 113, 114, 115, 116, 117, 118, 119, 120, 121, 122]
theorem digs_at {k : Nat} (h : k < 16) : digs36[k]? = some (hexC k) := by
  have := hexC_all (p := fun k c => digs36[k]? == some c) (by kernel_rfl) h
  exact eq_of_beq this
theorem and15 (m : Nat) (h : m < 18446744073709551616) : bits .and .u64 (m : Int) (IntKind.u64.wrap ((IntKind.u64.wrap (16 : Int)) - (1 : Int))) = ((m % 16 : Nat) : Int) := by
  have e : IntKind.u64.wrap ((IntKind.u64.wrap (16 : Int)) - (1 : Int)) = ((15 : Nat) : Int) := by decide
  rw [e, bits_and_u64_nat m 15 h (by omega), show (15 : Nat) = 2 ^ 4 - 1 from rfl, Nat.and_two_pow_sub_one_eq_mod]
theorem u8_back (x : UInt8) : u8 ((x.toNat : Nat) : Int) = x := by unfold u8; simp
theorem set_drop {L : Bytes} {p : Nat} {x : UInt8} (h : p < L.length) : (L.set p x).drop p = x :: L.drop (p + 1) := by
  rw [List.drop_eq_getElem_cons (by simpa using h), List.drop_set_of_lt (by omega)]
  simp
noncomputable def fmtK (m p : Int) (L : Bytes) (x45 : UInt8) : Option ((Int × Int × (List UInt8)) ⊕ (Int × Int × (List UInt8))) :=
      chk (0 ≤ (IntKind.i64.wrap (p - (1 : Int))) ∧ (IntKind.i64.wrap (p - (1 : Int))) < 65) <|
      (seti L (IntKind.i64.wrap (p - (1 : Int))) (u8 (x45.toNat : Int))).bind fun x47 =>
      chk ((0 ≤ (IntKind.u64.wrap (4 : Int)) ∧ (IntKind.u64.wrap (4 : Int)) ≤ (IntKind.u64.bits : Int)) ∧ IntKind.u64.wrap (m / 2 ^ (IntKind.u64.wrap (4 : Int)).toNat) = m / 2 ^ (IntKind.u64.wrap (4 : Int)).toNat) <|
      some (.inl ((m / 2 ^ (IntKind.u64.wrap (4 : Int)).toNat), (IntKind.i64.wrap (p - (1 : Int))), x47))
theorem fmt_body (m p : Int) (L : Bytes) : strconv_formatBits_b3 16 4 (m, p, L) = bif (decide (m ≥ (IntKind.u64.wrap (16 : Int)))) then (idx digs36 (bits .and .u64 m (IntKind.u64.wrap ((IntKind.u64.wrap (16 : Int)) - (1 : Int))))).bind (fmtK m p L) else some (.inr (m, p, L)) := rfl
theorem fmt_loop : ∀ (f m p : Nat) (L : Bytes), L.length = 65 → m < 16 ^ (f + 1) → m < 1000000000 → f + 1 ≤ p → p ≤ 65 →
    ∃ (m' p' : Nat) (L' : Bytes), loopO (strconv_formatBits_b3 16 4) ((m : Int), (p : Int), L) = some ((m' : Int), (p' : Int), L') ∧ m' < 16 ∧ 1 ≤ p' ∧ p' ≤ 65 ∧ L'.length = 65 ∧ hexC m' :: L'.drop p' = (hexL (f + 1) m).map hexC ++ L.drop p
  | f, m, p, L, hL, hm, hm9, hp, hp2 => by
    by_cases h16 : m < 16
    · refine ⟨m, p, L, ?_, h16, by omega, hp2, hL, ?_⟩
      · rw [loopO_eq]
        unfold strconv_formatBits_b3
        dsimp only
        rw [decide_eq_false (by rw [u64_id (by omega) (by omega)]; omega), cond_false]
      · unfold hexL
        rw [decide_eq_true h16, cond_true]; rfl
    · have hf : ∃ g, f = g + 1 := by
        cases f with
        | zero => simp at hm; omega
        | succ g => exact ⟨g, rfl⟩
      obtain ⟨g, rfl⟩ := hf
      have hx := digs_at (k := m % 16) (Nat.mod_lt _ (by omega))
      have hlt : p - 1 < L.length := by omega
      obtain ⟨m', p', L', h1, h2, h3, h4, h5, h6⟩ := fmt_loop g (m / 16) (p - 1) (L.set (p - 1) (hexC (m % 16))) (by simpa using hL) (by rw [Nat.pow_succ] at hm; omega) (by omega) (by omega) (by omega)
      refine ⟨m', p', L', ?_, h2, h3, h4, h5, ?_⟩
      · have e1 : IntKind.i64.wrap ((p : Int) - (1 : Int)) = ((p - 1 : Nat) : Int) := by rw [wrap_i64 (by omega) (by omega)]; omega
        have e2 : IntKind.u64.wrap (4 : Int) = 4 := by decide
        have e3 : (m : Int) / 2 ^ (4 : Int).toNat = ((m / 16 : Nat) : Int) := by show (m : Int) / 16 = _; omega
        have hi : idx digs36 ((m % 16 : Nat) : Int) = some (hexC (m % 16)) := idx_at hx
        have hst : fmtK (m : Int) (p : Int) L (hexC (m % 16)) = some (.inl (((m / 16 : Nat) : Int), ((p - 1 : Nat) : Int), L.set (p - 1) (hexC (m % 16)))) := by
          unfold fmtK
          rw [e1, chk_pos (by omega), u8_back, show seti L ((p - 1 : Nat) : Int) (hexC (m % 16)) = some (L.set (p - 1) (hexC (m % 16))) by unfold seti; rw [chk_pos (by omega)]; rfl, Option.bind_some, e2, e3, chk_pos ⟨⟨by omega, by decide⟩, u64_id (by omega) (by omega)⟩]
        rw [loopO_eq, fmt_body, decide_eq_true (by rw [u64_id (by omega) (by omega)]; omega), cond_true, and15 m (by omega), hi, Option.bind_some, hst]
        exact h1
      · rw [h6, set_drop hlt, show p - 1 + 1 = p by omega]
        have : hexL (g + 1 + 1) m = hexL (g + 1) (m / 16) ++ [m % 16] := by rw [hexL, decide_eq_false h16, cond_false]
        rw [this]; simp
theorem Fmt16_eq {n : Nat} (h : n ≤ 20000) : strconv_FmtU (n : Int) (16 : Int) = some (hexD n) := by
  obtain ⟨m, p, L, h1, h2, h3, h4, h5, h6⟩ := fmt_loop 4 n 65 (List.replicate 65 (0 : UInt8)) (by simp) (by omega) (by omega) (by omega) (by omega)
  have hz : math_bits_TrailingZeros (IntKind.u64.wrap (16 : Int)) = some 4 := by kernel_rfl
  have hpw : strconv_isPowerOfTwo (16 : Int) = some true := by kernel_rfl
  have e1 : IntKind.i64.wrap ((p : Int) - (1 : Int)) = ((p - 1 : Nat) : Int) := by rw [wrap_i64 (by omega) (by omega)]; omega
  have hi : idx digs36 (m : Int) = some (hexC m) := idx_at (digs_at h2)
  have hs : seti L ((p - 1 : Nat) : Int) (hexC m) = some (L.set (p - 1) (hexC m)) := by unfold seti; rw [chk_pos (by omega)]; rfl
  have hd : (L.set (p - 1) (hexC m)).drop (p - 1) = hexD n := by
    rw [set_drop (by omega), show p - 1 + 1 = p by omega, h6]
    unfold hexD
    simp
  have hlen : ((65 : Int).toNat - ((p - 1 : Nat) : Int).toNat) = (hexD n).length := by
    rw [← hd]; simp; omega
  have h1' : loopO (strconv_formatBits_b3 16 4) ((n : Int), (65 : Int), List.replicate 65 (0 : UInt8)) = some ((m : Int), (p : Int), L) := h1
  have inner : ((idx digs36 (m : Int)).bind fun x49 => chk (0 ≤ (IntKind.i64.wrap ((p : Int) - (1 : Int))) ∧ (IntKind.i64.wrap ((p : Int) - (1 : Int))) < 65) ((seti L (IntKind.i64.wrap ((p : Int) - (1 : Int))) (u8 (x49.toNat : Int))).bind fun x51 => some ((IntKind.i64.wrap ((p : Int) - (1 : Int))), x51))) = some (((p - 1 : Nat) : Int), L.set (p - 1) (hexC m)) := by
    rw [hi, Option.bind_some, e1, chk_pos (by omega), u8_back, hs, Option.bind_some]
  have hb : strconv_formatBits ([] : List UInt8) (n : Int) (16 : Int) false false = some (([] : List UInt8), hexD n) := by
    unfold strconv_formatBits
    rw [show (bif (bif decide ((16 : Int) < (2 : Int)) then true else ((16 : Int) == (10 : Int))) then true else decide ((16 : Int) > (36 : Int))) = false from rfl, cond_false, cond_false, hpw, Option.bind_some, cond_true, hz, Option.bind_some, h1', Option.bind_some]
    refine (congrArg (fun o : Option (Int × Bytes) => o.bind _) inner).trans ?_
    show (chk (0 ≤ ((p - 1 : Nat) : Int) ∧ ((p - 1 : Nat) : Int) < (65 : Int) ∧ (65 : Int) ≤ (65 : Int)) (chk ((0 + ((p - 1 : Nat) : Int).toNat * 1) + ((65 : Int).toNat - ((p - 1 : Nat) : Int).toNat) ≤ (L.set (p - 1) (hexC m)).length) (some (([] : List UInt8), (((L.set (p - 1) (hexC m)).drop (0 + ((p - 1 : Nat) : Int).toNat * 1)).take ((65 : Int).toNat - ((p - 1 : Nat) : Int).toNat)))))) = _
    rw [chk_pos (by omega), chk_pos (by simp; omega), hlen, show 0 + ((p - 1 : Nat) : Int).toNat * 1 = p - 1 by omega, hd, List.take_of_length_le (Nat.le_refl _)]
  unfold strconv_FmtU
  rw [show ((16 : Int) == 10) = false from rfl, cond_false]
  unfold fu16 fu16i
  rw [show ((16 : Int) == 10) = false from rfl, cond_false, hb]
  rfl
/-! ### What is written -/
theorem Encode_eq {b : Bytes} (h : b.length ≤ 20000) : chunk_Encode b = some (encB0 b) := by
  unfold chunk_Encode encB0
  cases hn : (b == ([] : Bytes)) with
  | true => rfl
  | false =>
    have hl := hexD_len h
    rw [cond_false, cond_false]
    unfold number_Hex
    rw [u64_id (by omega) (by omega), Fmt16_eq h, Option.bind_some, Option.bind_some, cat_ok (by unfold maxLen; simp; omega), Option.bind_some, cat_ok (by unfold maxLen; simp; omega), Option.bind_some, cat_ok (by unfold maxLen; simp; omega), Option.bind_some]
    simp
theorem encB0_len {b : Bytes} (h : b.length ≤ 20000) : (encB0 b).length ≤ b.length + 9 := by
  unfold encB0
  cases hn : (b == ([] : Bytes)) with
  | true => simp
  | false =>
    have hl := hexD_len h
    rw [cond_false]
    simp; omega
def printL (l : List S_Field) : Bytes × Int := bif rightB l then (bif decide ((textOf l).length > 4000) then ([], 2) else (textOf l, 0)) else ([], 1)
theorem fold_print : ∀ (l : List S_Field) (acc : Bytes), foldE (ρ := Bytes) (fun acc f => .inl (acc ++ (f.Name ++ [58, 32] ++ f.Value ++ [13, 10]))) (fun acc => acc) l acc = acc ++ textOf l
  | [], acc => by simp [foldE, textOf]
  | f :: l, acc => by
    rw [foldE_cons]
    dsimp only
    rw [fold_print l, textOf_cons]
    unfold lineOf
    simp
theorem Print7_eq {l : List S_Field} (h : FRow l) : head_Print l = some (printL l) := by
  have hl := h.len
  unfold head_Print printL
  rw [Right_eq (big (by omega)) h.small, Option.bind_some]
  cases hr : rightB l with
  | false => rfl
  | true =>
    have h40 := rightB_len hr
    have key := loop_list (body := head_Print_b1 l) l (fun i (acc : Bytes) => ((i : Int), acc)) (fun acc f => (.inl (acc ++ (f.Name ++ [58, 32] ++ f.Value ++ [13, 10])) : Bytes ⊕ Bytes)) (fun acc => acc) (fun i acc => acc.length ≤ i * 300000 ∧ i ≤ 40) (fun i b x hx hi => ?_) (fun b hi => ?_) [] ⟨Nat.zero_le _, by omega⟩
    rotate_left
    · have hlt := lt_of_get hx
      obtain ⟨h1, h2⟩ := h.each x (List.mem_of_getElem? hx)
      refine .inl ⟨_, rfl, ?_, by simp; omega, by omega⟩
      unfold head_Print_b1
      dsimp only
      rw [dlt_true hlt, cond_true, idx_at hx, Option.bind_some, cat_ok (by unfold maxLen; simp; omega), Option.bind_some, cat_ok (by unfold maxLen; simp; omega), Option.bind_some, cat_ok (by unfold maxLen; simp; omega), Option.bind_some,
        wrap_inc hlt (by unfold maxLen; omega)]
      unfold bcat
      rw [if_pos (by simp; omega), Option.bind_some]
    · unfold head_Print_b1
      dsimp only
      rw [dlt_self]; rfl
    have e : loopO (head_Print_b1 l) ((0 : Int), ([] : Bytes)) = some (textOf l) := by
      have := fold_print l []
      rw [List.nil_append] at this
      rw [← this]; exact key
    have ht : (textOf l).length ≤ 40 * 300000 := by
      have := h.each
      clear e key hr
      have : ∀ m : List S_Field, (∀ f, f ∈ m → f ∈ l) → (textOf m).length ≤ m.length * 300000 := by
        intro m
        induction m with
        | nil => intro _; simp [textOf]
        | cons f m ih =>
          intro hm
          have h1 := ih fun g hg => hm g (List.mem_cons_of_mem _ hg)
          obtain ⟨h2, h3⟩ := h.each f (hm f (List.mem_cons_self ..))
          rw [textOf_cons]
          unfold lineOf
          simp
          omega
      exact Nat.le_trans (this l (fun _ h => h)) (Nat.mul_le_mul_right _ h40)
    rw [show (!true) = false from rfl, cond_false, e, Option.bind_some]
    have hb : bcat (textOf l) [] = some (textOf l) := by unfold bcat; rw [if_pos (by simp; omega), List.append_nil]
    rw [hb, Option.bind_some, Option.bind_some, cond_true]
    have : decide (((textOf l).length : Int) > (4000 : Int)) = decide ((textOf l).length > 4000) := by rw [decide_eq_decide]; omega
    rw [this]
    cases decide ((textOf l).length > 4000) <;> rfl
def bodOf (m : S_Message) (c : Bool) : S_Body := bif c then B 2 0 else B 1 (m.Body.length : Int)
def payOf (m : S_Message) (c : Bool) : Bytes := bif c then encB0 m.Body ++ chEnd else m.Body
def writeB (m : S_Message) (c : Bool) : Bytes × Int :=
  bif (!startB m.Start) || ((!rightB m.Fields) || decide (m.Body.length > 20000)) then ([], 1) else
  bif (withB m.Fields (bodOf m c)).2 != 0 then ([], (withB m.Fields (bodOf m c)).2) else
  bif decide ((textOf (withB m.Fields (bodOf m c)).1).length > 4000) then ([], 2) else
  (headOf (printB m.Start) (withB m.Fields (bodOf m c)).1 ++ payOf m c, 0)
structure MSm (m : S_Message) : Prop where
  start : SSm m.Start
  row : FRow m.Fields
  body : m.Body.length ≤ 1000000
theorem made_row {l x : List S_Field} {b : S_Body} (h : Made l b x) (hl : FRow l) : FRow x := ⟨by have := h.len; omega, fun f hf => by
  rcases h.mem f hf with h1 | h1
  · exact hl.each f h1
  · subst h1
    have h2 := digits_le (n := b.Size.toNat) (by have := h.size1; omega)
    unfold fld
    cases (b.Kind == 1) with
    | true => exact ⟨by show nCL.length ≤ _; decide, by show (Lib.decDigits _).length ≤ _; omega⟩
    | false => exact ⟨by show nTE.length ≤ _; decide, by show chunked.length ≤ _; decide⟩⟩
theorem Write_eq {m : S_Message} (h : MSm m) (c : Bool) : wire_Write m c = some (writeB m c) := by
  have hrow := h.row
  have hlf := hrow.len
  have hbl := h.body
  unfold wire_Write writeB
  rw [Print_eq h.start, Option.bind_some]
  cases hs : startB m.Start with
  | false => rfl
  | true =>
    rw [cond_true]
    show ((gcall true (table_Right m.Fields)).bind _) = _
    rw [gcall_tt rfl, Right_eq (big (by omega)) hrow.small, Option.bind_some]
    have hp := printB_len h.start hs
    have hm1 := h.start.method
    have hm2 := h.start.target
    have hm3 := h.start.reason
    cases hr : rightB m.Fields with
    | false => rfl
    | true =>
      show (bif (bif (bif ((0 : Int) != 0) then true else (!true)) then true else decide ((m.Body.length : Int) > 20000)) then _ else _) = some (bif ((!true) || ((!true) || decide (m.Body.length > 20000))) then _ else _)
      have e : decide ((m.Body.length : Int) > 20000) = decide (m.Body.length > 20000) := by rw [decide_eq_decide]; omega
      rw [e]
      cases hb : decide (m.Body.length > 20000) with
      | true => rfl
      | false =>
        have hb2 : m.Body.length ≤ 20000 := by simpa using hb
        show (bif c then _ else _) = some (bif (withB m.Fields (bodOf m c)).2 != 0 then _ else _)
        have fin : ∀ (pay : Bytes) (b : S_Body), pay.length ≤ 30000 → ((frame_With m.Fields b).bind fun x6 =>
            bif ((x6.2) != (0 : Int)) then some (([] : Bytes), (x6.2)) else
            (head_Print (x6.1)).bind fun x7 =>
            bif ((x7.2) != (0 : Int)) then some (([] : Bytes), (x7.2)) else
            (cat (printB m.Start) ([13, 10] : Bytes)).bind fun x8 =>
            (cat x8 (x7.1)).bind fun x9 =>
            (cat x9 ([13, 10] : Bytes)).bind fun x10 =>
            (cat x10 pay).bind fun x11 =>
            some (x11, (0 : Int))) = some (bif (withB m.Fields b).2 != 0 then ([], (withB m.Fields b).2) else bif decide ((textOf (withB m.Fields b).1).length > 4000) then ([], 2) else (headOf (printB m.Start) (withB m.Fields b).1 ++ pay, 0)) := by
          intro pay b hpay
          rw [With_eq hrow, Option.bind_some]
          rcases withB_cases m.Fields b with ⟨h1, h2⟩ | ⟨h1, h2⟩
          · rw [h2]; rfl
          · have hrow2 := made_row h2 hrow
            rw [h1, show ((0 : Int) != 0) = false from rfl, cond_false, cond_false, Print7_eq hrow2, Option.bind_some]
            unfold printL
            rw [h2.right, cond_true]
            cases ht : decide ((textOf (withB m.Fields b).1).length > 4000) with
            | true => rfl
            | false =>
              have ht2 : (textOf (withB m.Fields b).1).length ≤ 4000 := by simpa using ht
              rw [cond_false, show ((0 : Int) != 0) = false from rfl, cond_false, cond_false]
              rw [cat_ok (by unfold maxLen; simp; omega), Option.bind_some, cat_ok (by unfold maxLen; simp; omega), Option.bind_some, cat_ok (by unfold maxLen; simp; omega), Option.bind_some, cat_ok (by unfold maxLen; simp; omega), Option.bind_some]
              unfold headOf
              simp
        cases c with
        | false => exact fin m.Body (B 1 (m.Body.length : Int)) (by omega)
        | true =>
          rw [cond_true, Encode_eq hb2, Option.bind_some]
          have hel := encB0_len hb2
          show ((cat (encB0 m.Body) chEnd).bind _) = _
          rw [cat_ok (by unfold maxLen; simp [chEnd]; omega), Option.bind_some]
          exact fin (encB0 m.Body ++ chEnd) (B 2 0) (by simp [chEnd]; omega)
end Go.Proofs.YtpionnihpibglaaGreatDoor
namespace Go.Proofs.YtpionnihpibglaaGreatDoor
open Go Go.Pm
set_option linter.unusedSimpArgs false
set_option linter.unusedVariables false
set_option maxRecDepth 100000
theorem print_no {s : S_Start} (h : startB s = true) : (printB s).contains 10 = false ∧ (printB s).head? ≠ some 13 ∧ printB s ≠ [] := by
  have hm := startB_minor h
  have hv := ver_cases hm
  have hv10 : (ver s.Minor.toNat).contains 10 = false := by rcases hv with e | e <;> rw [e] <;> rfl
  unfold startB at h
  rw [Bool.and_eq_true] at h
  have h2 := h.2
  unfold printB
  cases hc : (s.Code == 0) with
  | true =>
    rw [hc, cond_true] at h2
    simp only [Bool.and_eq_true] at h2
    obtain ⟨_, ht, _, htg⟩ := h2
    have ha := tok_all ht
    have hne : s.Method ≠ [] := by
      unfold tokenB at ht
      intro e
      rw [e] at ht; cases ht
    have htn : s.Target.contains 10 = false := by
      unfold targetB at htg
      rw [Bool.or_eq_true] at htg
      rcases htg with e | e
      · rw [eq_of_beq e]; rfl
      · simp only [Bool.and_eq_true, Bool.not_eq_true'] at e
        exact any_no (p := badU) (by kernel_rfl) e.2.2
    rw [cond_true]
    obtain ⟨x, t, hx⟩ : ∃ x t, s.Method = x :: t := by
      cases hmm : s.Method with
      | nil => exact absurd hmm hne
      | cons x t => exact ⟨x, t, rfl⟩
    refine ⟨?_, ?_, by rw [hx]; simp⟩
    · have e : s.Method ++ 32 :: (s.Target ++ 32 :: ver s.Minor.toNat) = s.Method ++ ([32] ++ (s.Target ++ ([32] ++ ver s.Minor.toNat))) := rfl
      rw [e, contains_append, contains_append, contains_append, contains_append, hv10, htn, all_no (p := wordB) (by kernel_rfl) ha]
      rfl
    · rw [hx]
      show (some x : Option UInt8) ≠ some 13
      intro e
      injection e with e
      rw [hx, List.all_cons, Bool.and_eq_true, e] at ha
      exact absurd ha.1 (by decide)
  | false =>
    rw [hc, cond_false] at h2
    simp only [Bool.and_eq_true, Bool.not_eq_true'] at h2
    obtain ⟨_, _, _, _, _, hr⟩ := h2
    rw [cond_false]
    have hd : (Lib.decDigits s.Code.toNat).contains 10 = false := all_no (p := isDig) (by kernel_rfl) (digits_all _)
    have e : ver s.Minor.toNat ++ 32 :: (Lib.decDigits s.Code.toNat ++ 32 :: s.Reason) = ver s.Minor.toNat ++ ([32] ++ (Lib.decDigits s.Code.toNat ++ ([32] ++ s.Reason))) := rfl
    refine ⟨?_, ?_, ?_⟩
    · rw [e, contains_append, contains_append, contains_append, contains_append, hv10, hd, any_no (p := ctlB) (by kernel_rfl) hr]
      rfl
    · rcases hv with e | e <;> rw [e] <;> exact fun h => by cases h
    · rcases hv with e | e <;> rw [e] <;> exact fun h => by cases h
def getM3 : Bytes := [71, 69, 84]
theorem head_ok {m : S_Message} {c : Bool} {x : List S_Field} (hm : MSm m) (hs : startB m.Start = true) (hx : Made m.Fields (bodOf m c) x) (hmin : c = true → m.Start.Minor ≠ 0)
    (hcode : m.Start.Code = 0 ∨ (200 ≤ m.Start.Code ∧ m.Start.Code ≠ 204 ∧ m.Start.Code ≠ 304)) (hlen : (headOf (printB m.Start) x).length ≤ 4000) : HeadOk (m.Start.Code == 0) getM3 (printB m.Start) m.Start x (bodOf m c) := by
  obtain ⟨n1, n2, n3⟩ := print_no hs
  have hpl := printB_len hm.start hs
  have h1 := hm.start.method
  have h2 := hm.start.target
  have h3 := hm.start.reason
  have hph : (printB m.Start).length ≤ 4000 := by
    have h := hlen
    unfold headOf at h
    simp at h; omega
  have hz : ((bodOf m c).Kind == 2 && m.Start.Minor == 0) = false := by
    cases c with
    | false => rfl
    | true =>
      show ((2 : Int) == 2 && m.Start.Minor == 0) = false
      have := hmin rfl
      simp [this]
  have hsay : ∀ none_ : S_Body, sayB m.Start.Minor x none_ = (bodOf m c, 0) := fun none_ => by
    rw [made_say hx _ _ hz]
    cases c <;> rfl
  refine ⟨n1, n2, n3, hx.right, hlen, ?_, ?_, hm.start.small, ?_⟩
  · cases h0 : (m.Start.Code == 0) with
    | true => rw [cond_true, Parse_eq (by omega), (print0 hs (eq_of_beq h0)).1]
    | false => rw [cond_false, Status_eq (by omega), (print1 hs (by simpa using h0)).2]
  · show bodyB (m.Start.Code == 0) getM3 (S_Message.mk m.Start x []) = _
    unfold bodyB
    cases h0 : (m.Start.Code == 0) with
    | true =>
      show reqB m.Start x = _
      unfold reqB
      rw [hs, show (m.Start.Code != 0) = false by rw [eq_of_beq h0]; rfl, hx.right]
      exact hsay _
    | false =>
      show ansB m.Start x getM3 = _
      have hne : m.Start.Code ≠ 0 := by simpa using h0
      obtain ⟨g1, g2, g3⟩ := hcode.resolve_left hne
      unfold ansB
      rw [hs, h0, hx.right, show decide (m.Start.Code < 200) = false from decide_eq_false (by omega), show (m.Start.Code == 204) = false by simpa using g2, show (m.Start.Code == 304) = false by simpa using g3]
      exact hsay _
  · cases h0 : (m.Start.Code != (0 : Int)) with
    | false => rfl
    | true =>
      have hne : m.Start.Code ≠ 0 := by simpa using h0
      obtain ⟨g1, g2, g3⟩ := hcode.resolve_left hne
      rw [cond_true]
      exact decide_eq_false (by omega)
theorem feed_write {m : S_Message} {c : Bool} {x : Bytes} {fs : List S_Field} {O : List S_Message} (hm : MSm m) (hs : startB m.Start = true) (hfs : Made m.Fields (bodOf m c) fs) (hb : m.Body.length ≤ 20000) (hmin : c = true → m.Start.Minor ≠ 0)
    (hcode : m.Start.Code = 0 ∨ (200 ≤ m.Start.Code ∧ m.Start.Code ≠ 204 ∧ m.Start.Code ≠ 304)) (hlen : (headOf (printB m.Start) fs).length ≤ 4000) (hx : m.Body.length + x.length ≤ 30000) (hO : O.length ≤ 1000000) :
    loopO wire_Feed_b1 (outW (m.Start.Code == 0) getM3 (headOf (printB m.Start) fs ++ (payOf m c ++ x)) O) = loopO wire_Feed_b1 (outW (m.Start.Code == 0) getM3 x (O ++ [S_Message.mk m.Start fs m.Body])) := by
  have hh := head_ok hm hs hfs hmin hcode hlen
  cases c with
  | false => exact feed_size (b := m.Body) hh hb (by omega) hO
  | true =>
    have hl := encB0_len hb
    have e : payOf m true ++ x = encB0 m.Body ++ (chEnd ++ x) := by show (encB0 m.Body ++ chEnd) ++ x = _; rw [List.append_assoc]
    rw [e]
    exact feed_chunks hh hb (by omega) hO
end Go.Proofs.YtpionnihpibglaaGreatDoor
namespace Go.Proofs.YtpionnihpibglaaGreatDoor
open Go Go.Pm
set_option linter.unusedSimpArgs false
set_option linter.unusedVariables false
set_option maxRecDepth 100000
theorem cutM_sm (m : S_Message) : MSm (cutM m) := ⟨⟨by unfold cutM cutS; simp <;> omega, by unfold cutM cutS; simp <;> omega, by unfold cutM cutS; simp <;> omega⟩, cutL_row _, by unfold cutM; simp <;> omega⟩
/-! ### Where the head ends -/
def crC : Bytes := [13, 10, 13, 10]
theorem idx_cons (b : UInt8) (l : Bytes) : Lib.index (b :: l) crC = if crC.isPrefixOf (b :: l) then 0 else if Lib.index l crC == -1 then -1 else Lib.index l crC + 1 := rfl
theorem idx_step {b : UInt8} {l : Bytes} {n : Nat} (h : crC.isPrefixOf (b :: l) = false) (hl : Lib.index l crC = (n : Int)) : Lib.index (b :: l) crC = ((n + 1 : Nat) : Int) := by
  rw [idx_cons, h, hl, if_neg (by simp), if_neg (by simp <;> omega)]
  omega
theorem idx_line {r : Bytes} {n : Nat} : ∀ (u : Bytes), u.contains 10 = false → Lib.index (13 :: 10 :: r) crC = (n : Int) → Lib.index (u ++ 13 :: 10 :: r) crC = ((u.length + n : Nat) : Int)
  | [], _, h => by rw [List.nil_append, h]; simp
  | b :: u, hu, h => by
    rw [List.contains_cons, Bool.or_eq_false_iff] at hu
    have ih := idx_line u hu.2 h
    have hp : crC.isPrefixOf (b :: (u ++ 13 :: 10 :: r)) = false := by
      cases u with
      | nil =>
        show ((13 == b) && ((10 : UInt8) == 13 && _)) = false
        rw [show ((10 : UInt8) == 13) = false from rfl]; simp
      | cons c v =>
        have := hu.2
        rw [List.contains_cons, Bool.or_eq_false_iff] at this
        show ((13 == b) && ((10 : UInt8) == c && _)) = false
        rw [this.1]; simp
    show Lib.index (b :: (u ++ 13 :: 10 :: r)) crC = _
    rw [idx_step hp ih]
    simp; omega
theorem idx_end (p : Bytes) : Lib.index (13 :: 10 :: 13 :: 10 :: p) crC = ((0 : Nat) : Int) := by
  rw [idx_cons, if_pos (by simp [crC, List.isPrefixOf])]; rfl
theorem idx_on {c : UInt8} {r : Bytes} {n : Nat} (hc : ((13 : UInt8) == c) = false) (h : Lib.index (c :: r) crC = (n : Int)) : Lib.index (13 :: 10 :: c :: r) crC = ((n + 2 : Nat) : Int) := by
  have h1 : Lib.index (10 :: c :: r) crC = ((n + 1 : Nat) : Int) := idx_step (by simp [crC, List.isPrefixOf]) h
  exact idx_step (by show ((13 : UInt8) == 13 && ((10 : UInt8) == 10 && ((13 : UInt8) == c && _))) = false; rw [hc]; rfl) h1
theorem idx_head (p : Bytes) : ∀ (fs : List S_Field), (∀ f, f ∈ fs → MayF f) → Lib.index (13 :: 10 :: (textOf fs ++ 13 :: 10 :: p)) crC = (((textOf fs).length : Nat) : Int)
  | [], _ => by
    show Lib.index (13 :: 10 :: 13 :: 10 :: p) crC = _
    rw [idx_end]; rfl
  | f :: l, h => by
    have hm := h f (List.mem_cons_self ..)
    have ih := idx_head p l (fun g hg => h g (List.mem_cons_of_mem _ hg))
    have hno : (lineOf f).contains 10 = false := by
      have := lineOf_no hm
      rw [contains_append, Bool.or_eq_false_iff] at this
      exact this.1
    have e : textOf (f :: l) ++ 13 :: 10 :: p = lineOf f ++ 13 :: 10 :: (textOf l ++ 13 :: 10 :: p) := by rw [textOf_cons]; simp
    have hi := idx_line (lineOf f) hno ih
    obtain ⟨c, t, hct⟩ : ∃ c t, f.Name = c :: t := by
      cases hn : f.Name with
      | nil => have := hm.name; unfold tokenB at this; rw [hn] at this; cases this
      | cons c t => exact ⟨c, t, rfl⟩
    have hw := tok_all hm.name
    rw [hct, List.all_cons, Bool.and_eq_true] at hw
    have hc : ((13 : UInt8) == c) = false := by
      cases hx : ((13 : UInt8) == c) with
      | false => rfl
      | true => rw [← eq_of_beq hx] at hw; exact absurd hw.1 (by decide)
    have el : lineOf f ++ 13 :: 10 :: (textOf l ++ 13 :: 10 :: p) = c :: (t ++ 58 :: 32 :: f.Value ++ 13 :: 10 :: (textOf l ++ 13 :: 10 :: p)) := by unfold lineOf; rw [hct]; simp
    rw [e, el]
    rw [el] at hi
    rw [idx_on hc hi]
    have hl2 : (textOf (f :: l)).length = (lineOf f).length + 2 + (textOf l).length := by rw [textOf_cons]; simp; omega
    rw [hl2]
    congr 1
    omega
theorem idx_headOf {l : Bytes} {fs : List S_Field} (p : Bytes) (hl : l.contains 10 = false) (hf : ∀ f, f ∈ fs → MayF f) : Lib.index (headOf l fs ++ p) crC + 4 = (((headOf l fs).length : Nat) : Int) := by
  have e : headOf l fs ++ p = l ++ 13 :: 10 :: (textOf fs ++ 13 :: 10 :: p) := by unfold headOf; simp
  rw [e, idx_line l hl (idx_head p fs hf)]
  unfold headOf
  simp; omega
/-! ### The law of reading back -/
theorem startEq2 (s : S_Start) : ((s.Method == s.Method) && ((s.Target == s.Target) && ((s.Code == s.Code) && ((s.Reason == s.Reason) && ((s.Minor == s.Minor) && true))))) = true := by simp
theorem same_eq {l : List S_Field} (h : FRow l) : intarsialaw10_WireBack_1 l = some (rest l) := by
  obtain ⟨h1, h2⟩ := refRem2 h
  unfold intarsialaw10_WireBack_1
  rw [h1, Option.bind_some, h2]; rfl
theorem feed_more {m : S_Message} {fs : List S_Field} {x : Bytes} (a : Bool) (hx : x.length ≤ 500) : ∃ r o, loopO wire_Feed_b1 (outW a getM3 x [S_Message.mk m.Start fs m.Body]) = some (r, S_Message.mk m.Start fs m.Body :: o, 0) := by
  have hw : WI a getM3 (outW a getM3 x []) := ⟨rfl, rfl, rfl, by show x.length ≤ _; omega, by show ([] : List S_Message).length + (2 * x.length + (bif false then 1 else 0)) ≤ _; simp; omega, fun _ => ⟨rfl, rfl, rfl⟩, fun h => by cases h⟩
  obtain ⟨r, hr, hok⟩ := feed_all hw (fun h hh => by cases hh)
  have hp := feed_pre (o := [S_Message.mk m.Start fs m.Body]) (mu (outW a getM3 x [])) (outW a getM3 x []) (Nat.le_refl _) hw (by have := hw.cnt; show 1 + 0 + _ ≤ _; have e : (outW a getM3 x []).out.length = 0 := rfl; have e2 : mu (outW a getM3 x []) = 2 * x.length + 0 := rfl; omega)
  rw [hr] at hp
  have he := hok.err
  refine ⟨r.1, r.2.1, ?_⟩
  have e : pre [S_Message.mk m.Start fs m.Body] (outW a getM3 x []) = outW a getM3 x [S_Message.mk m.Start fs m.Body] := rfl
  rw [e] at hp
  rw [hp]
  show some (preF _ r) = _
  unfold preF
  rw [he]; rfl
theorem WireBack_true (a0 : S_Message) (a1 : Bool) (a2 : Bytes) : intarsialaw10_WireBack a0 a1 a2 = some true := by
  unfold intarsialaw10_WireBack
  rw [few_eq, Option.bind_some, slc_cut a2 500 (K := 500) rfl, Option.bind_some]
  have hx : (a2.take 500).length ≤ 500 := by simp; omega
  generalize a2.take 500 = x at *
  have hm := cutM_sm a0
  generalize cutM a0 = m at *
  rw [Write_eq hm, Option.bind_some, alive_eq]
  -- where nothing is to be read
  have hno : ∀ (t : Bytes) (e : Int), (e = 0 ∨ t = []) → ((some true : Option Bool).bind fun x4 => some (bif x4 then (bif (e == (0 : Int)) then true else (t == ([] : Bytes))) else false)) = some true := fun t e h => by
    rw [Option.bind_some, cond_true]
    rcases h with rfl | rfl
    · rfl
    · cases (e == 0) <;> rfl
  by_cases hs : startB m.Start = true
  case neg => 
    have : writeB m a1 = ([], 1) := by unfold writeB; rw [show startB m.Start = false by simpa using hs]; rfl
    rw [this]; exact hno [] 1 (.inr rfl)
  by_cases hr : rightB m.Fields = true
  case neg =>
    have : writeB m a1 = ([], 1) := by unfold writeB; rw [hs, show rightB m.Fields = false by simpa using hr]; rfl
    rw [this]; exact hno [] 1 (.inr rfl)
  by_cases hb : m.Body.length ≤ 20000
  case neg =>
    have : writeB m a1 = ([], 1) := by unfold writeB; rw [hs, hr, decide_eq_true (show m.Body.length > 20000 by omega)]; rfl
    rw [this]; exact hno [] 1 (.inr rfl)
  have hw0 : writeB m a1 = bif (withB m.Fields (bodOf m a1)).2 != 0 then ([], (withB m.Fields (bodOf m a1)).2) else
      bif decide ((textOf (withB m.Fields (bodOf m a1)).1).length > 4000) then ([], 2) else (headOf (printB m.Start) (withB m.Fields (bodOf m a1)).1 ++ payOf m a1, 0) := by
    unfold writeB; rw [hs, hr, decide_eq_false (show ¬ m.Body.length > 20000 by omega)]; rfl
  rcases withB_cases m.Fields (bodOf m a1) with ⟨_, h2⟩ | ⟨h1, hmade⟩
  · rw [hw0, h2, cond_true]
    have hne : (withB m.Fields (bodOf m a1)).2 ≠ 0 := by simpa using h2
    generalize (withB m.Fields (bodOf m a1)).2 = e at *
    show (bif (bif (bif (bif (bif (e != (0 : Int)) then true else _) then true else _) then true else _) then true else _) then _ else _) = _
    rw [show (e != (0 : Int)) = true by simpa using hne]
    exact hno [] e (.inr rfl)
  · rw [hw0, h1, show ((0 : Int) != 0) = false from rfl, cond_false]
    generalize hfs : (withB m.Fields (bodOf m a1)).1 = fs at *
    cases ht : decide ((textOf fs).length > 4000) with
    | true => rw [cond_true]; exact hno [] 2 (.inr rfl)
    | false =>
      have ht2 : (textOf fs).length ≤ 4000 := by simpa using ht
      rw [cond_false]
      dsimp only
      rw [show ((0 : Int) != 0) = false from rfl, cond_false]
      generalize hg : (bif (bif (bif (bif a1 then m.Start.Minor == (0 : Int) else false) then true else (bif m.Start.Code != (0 : Int) then decide (m.Start.Code < (200 : Int)) else false)) then true else m.Start.Code == (204 : Int)) then true else m.Start.Code == (304 : Int)) = g
      cases g with
      | true => rw [cond_true]; exact hno _ 0 (.inl rfl)
      | false =>
        rw [cond_false]
        -- what the guard says
        have hmin : a1 = true → m.Start.Minor ≠ 0 := fun h1 h0 => by
          rw [h1, h0] at hg; cases hg
        have hcode : m.Start.Code = 0 ∨ (200 ≤ m.Start.Code ∧ m.Start.Code ≠ 204 ∧ m.Start.Code ≠ 304) := by
          by_cases h0 : m.Start.Code = 0
          · exact .inl h0
          · right
            have e1 : (m.Start.Code != (0 : Int)) = true := by simpa using h0
            rw [e1, cond_true] at hg
            refine ⟨?_, fun h => ?_, fun h => ?_⟩
            · rcases Int.lt_or_le m.Start.Code 200 with h | h
              · rw [decide_eq_true h] at hg
                cases hz : (bif a1 then m.Start.Minor == (0 : Int) else false) <;> rw [hz] at hg <;> cases hg
              · exact h
            · rw [h] at hg
              revert hg
              cases (bif (bif a1 then m.Start.Minor == (0 : Int) else false) then true else decide ((204 : Int) < 200)) <;> exact fun hg => by cases hg
            · rw [h] at hg
              revert hg
              cases (bif (bif (bif a1 then m.Start.Minor == (0 : Int) else false) then true else decide ((304 : Int) < 200)) then true else (304 : Int) == 204) <;> exact fun hg => by cases hg
        have hph := printB_len hm.start hs
        have h1 := hm.start.method
        have h2 := hm.start.target
        have h3 := hm.start.reason
        have hpay : (payOf m a1).length ≤ 20100 := by
          have := encB0_len hb
          unfold payOf
          cases a1 with
          | false => exact Nat.le_trans hb (by omega)
          | true => show (encB0 m.Body ++ chEnd).length ≤ _; simp [chEnd]; omega
        have hlenH : (headOf (printB m.Start) fs).length = (printB m.Start).length + (textOf fs).length + 4 := by unfold headOf; simp; omega
        have hidx : strings_Index (headOf (printB m.Start) fs ++ payOf m a1) ([13, 10, 13, 10] : Bytes) = some (Lib.index (headOf (printB m.Start) fs ++ payOf m a1) crC) := by
          show chk ((headOf (printB m.Start) fs ++ payOf m a1).length < 4294967281) _ = _
          rw [chk_pos (by simp; omega)]; rfl
        have hI := idx_headOf (payOf m a1) (print_no hs).1 (fun f hf => mayF (rightB_all hmade.right f hf))
        rw [hidx, Option.bind_some]
        rw [show IntKind.i64.wrap (Lib.index (headOf (printB m.Start) fs ++ payOf m a1) crC + (4 : Int)) = (((headOf (printB m.Start) fs).length : Nat) : Int) by rw [hI]; exact wrap_i64 (by omega) (by omega)]
        cases hd : decide ((((headOf (printB m.Start) fs).length : Nat) : Int) > (4000 : Int)) with
        | true => rfl
        | false =>
          have hlen : (headOf (printB m.Start) fs).length ≤ 4000 := by
            have := of_decide_eq_false hd; omega
          rw [cond_false]
          show ((cat (headOf (printB m.Start) fs ++ payOf m a1) x).bind _) = _
          rw [cat_ok (by unfold maxLen; simp; omega), Option.bind_some]
          have hF : ∃ r o, wire_Feed (newR (m.Start.Code == 0) getM3) (headOf (printB m.Start) fs ++ payOf m a1 ++ x) = some (r, S_Message.mk m.Start fs m.Body :: o, 0) := by
            rw [wfeed_eq (newR_ok _ _) rfl (by simp; omega)]
            have hfw := feed_write (x := x) (O := []) hm hs hmade hb hmin hcode hlen (by omega) (by simp)
            have e : (S_wire_reading.mk (rplus (newR (m.Start.Code == 0) getM3) (headOf (printB m.Start) fs ++ payOf m a1 ++ x)) []) = outW (m.Start.Code == 0) getM3 (headOf (printB m.Start) fs ++ (payOf m a1 ++ x)) [] := by
              rw [List.append_assoc]; rfl
            rw [e, hfw]
            exact feed_more _ hx
          obtain ⟨r, o, hF⟩ := hF
          show ((wire_Feed (newR (m.Start.Code == 0) getM3) (headOf (printB m.Start) fs ++ payOf m a1 ++ x)).bind _) = _
          rw [hF, Option.bind_some]
          have hlo : (((S_Message.mk m.Start fs m.Body :: o).length : Int) == (0 : Int)) = false := by simp; omega
          show ((gcall (!(bif ((0 : Int) != 0) then true else (((S_Message.mk m.Start fs m.Body :: o).length : Int) == (0 : Int)))) (some true)).bind fun x10 => bif (bif (bif ((0 : Int) != 0) then true else (((S_Message.mk m.Start fs m.Body :: o).length : Int) == (0 : Int))) then true else (!x10)) then _ else _) = _
          rw [hlo]
          show ((gcall true (some true)).bind _) = _
          rw [gcall_tt rfl, Option.bind_some]
          show (bif false then some false else _) = _
          rw [cond_false]
          show ((idx (S_Message.mk m.Start fs m.Body :: o) 0).bind _) = _
          have hi0 : idx (S_Message.mk m.Start fs m.Body :: o) 0 = some (S_Message.mk m.Start fs m.Body) := rfl
          rw [hi0, Option.bind_some]
          dsimp only
          rw [startEq2, gidx_tt rfl, hi0, Option.bind_some]
          dsimp only
          rw [show (m.Body == m.Body) = true by simp, cond_true, gidx_tt rfl, hi0, Option.bind_some]
          dsimp only
          rw [gcall_tt rfl, same_eq (made_row hmade hm.row), Option.bind_some, gcall_tt rfl, same_eq hm.row, Option.bind_some, gcall_tt rfl, hmade.rest]
          have hrl := rest_le m.Fields
          have hfl := hm.row.len
          rw [Like_refl (by unfold maxLen; omega), Option.bind_some]
          rfl
end Go.Proofs.YtpionnihpibglaaGreatDoor
