/-
  Plain laws of the wire, written and read: messages.
-/
import Derived.Test.YtkfoahoplndelaaGreatDoorPw0
namespace Go.Proofs.YtkfoahoplndelaaGreatDoor
open Go Go.Pm
set_option linter.unusedVariables false
set_option maxRecDepth 100000
/-! ### It is told, and so -/
def Tot {α : Type} (o : Option α) (P : α → Prop) : Prop := ∃ x, o = some x ∧ P x
section
variable {α β : Type} {P : α → Prop} {Q : β → Prop}
theorem Tot.now {x : α} (h : P x) : Tot (some x) P := ⟨x, rfl, h⟩
theorem Tot.eq {o : Option α} {x : α} (h : o = some x) (hx : P x) : Tot o P := ⟨x, h, hx⟩
theorem Tot.bind {o : Option α} {f : α → Option β} (h : Tot o P) (k : ∀ x, P x → Tot (f x) Q) : Tot (o.bind f) Q := by
  obtain ⟨x, rfl, hx⟩ := h; exact k x hx
theorem Tot.mono {o : Option α} {P' : α → Prop} (h : Tot o P) (k : ∀ x, P x → P' x) : Tot o P' := by
  obtain ⟨x, h1, h2⟩ := h; exact ⟨x, h1, k x h2⟩
theorem Tot.br {b : Bool} {x y : Option α} (h1 : b = true → Tot x P) (h2 : b = false → Tot y P) : Tot (bif b then x else y) P := by
  cases b with
  | true => exact h1 rfl
  | false => exact h2 rfl
theorem Tot.guard [Inhabited α] {g : Bool} {o : Option α} (h : g = true → Tot o P) : Tot (gcall g o) (fun x => g = true → P x) := by
  cases g with
  | true => obtain ⟨x, h1, h2⟩ := h rfl; exact ⟨x, h1, fun _ => h2⟩
  | false => exact ⟨default, rfl, fun h => by cases h⟩
theorem Tot.chk {p : Prop} [Decidable p] {o : Option α} (hp : p) (h : Tot o P) : Tot (Pm.chk p o) P := by rw [chk_pos hp]; exact h
end
theorem loop_tot {σ ρ : Type} {body : σ → Option (σ ⊕ ρ)} (μ : σ → Nat) (Inv : σ → Prop) (Q : ρ → Prop)
    (h : ∀ x, Inv x → (∃ y, body x = some (.inl y) ∧ Inv y ∧ μ y < μ x) ∨ ∃ r, body x = some (.inr r) ∧ Q r) : ∀ x, Inv x → Tot (loopO body x) Q := by
  have key : ∀ n x, μ x ≤ n → Inv x → Tot (loopO body x) Q := by
    intro n
    induction n with
    | zero =>
      intro x hx hi
      rw [loopO_eq]
      rcases h x hi with ⟨y, h1, h2, h3⟩ | ⟨r, h1, h2⟩
      · omega
      · rw [h1]; exact ⟨r, rfl, h2⟩
    | succ n ih =>
      intro x hx hi
      rw [loopO_eq]
      rcases h x hi with ⟨y, h1, h2, h3⟩ | ⟨r, h1, h2⟩
      · rw [h1]; exact ih y (by omega) h2
      · rw [h1]; exact ⟨r, rfl, h2⟩
  exact fun x => key (μ x) x (Nat.le_refl _)
theorem slc_tot {α : Type} {l : List α} {a b : Int} (h : 0 ≤ a ∧ a ≤ b ∧ b ≤ (l.length : Int)) : Tot (slc l a b) (fun x => x = (l.drop a.toNat).take (b.toNat - a.toNat)) := by
  unfold slc; rw [chk_pos h]; exact ⟨_, rfl, rfl⟩
/-! ### Bytes found -/
theorem indexByte_range (s : Bytes) (c : UInt8) : Lib.indexByte s c = -1 ∨ (0 ≤ Lib.indexByte s c ∧ Lib.indexByte s c < (s.length : Int)) := by
  induction s with
  | nil => exact .inl rfl
  | cons b l ih =>
    unfold Lib.indexByte
    split
    · right; simp
    · split
      · exact .inl rfl
      · rename_i h1 h2
        have h2 : Lib.indexByte l c ≠ -1 := by simpa using h2
        right
        rcases ih with h | ⟨h3, h4⟩
        · exact absurd h h2
        · simp; omega
theorem sIndex_one (s : Bytes) (c : UInt8) : stringslite_Index s [c] = some (Lib.indexByte s c) := by
  unfold stringslite_Index
  have e1 : (((([c] : Bytes).length : Nat) : Int) == (0 : Int)) = false := rfl
  have e2 : (((([c] : Bytes).length : Nat) : Int) == (1 : Int)) = true := rfl
  rw [e1, e2, cond_false, cond_true]
  cases h : (([c] : Bytes) == s) with
  | true => rw [← eq_of_beq h]; simp [Lib.indexByte]
  | false =>
    rw [cond_false]
    show ((idx [c] ((0 : Nat) : Int)).bind _) = _
    rw [idx_at (x := c) rfl, Option.bind_some]
    show some (Lib.indexByte s (u8 (c.toNat : Int))) = _
    rw [u8_nat]
def cutC (c : UInt8) : Bytes → Bytes × Bytes × Bool
  | [] => ([], [], false)
  | x :: s => bif x == c then ([], s, true) else (x :: (cutC c s).1, (cutC c s).2)
theorem cutC_index (c : UInt8) : ∀ (s : Bytes), (Lib.indexByte s c = -1 ∧ cutC c s = (s, [], false)) ∨ ∃ i : Nat, Lib.indexByte s c = (i : Int) ∧ i < s.length ∧ cutC c s = (s.take i, s.drop (i + 1), true)
  | [] => .inl ⟨rfl, rfl⟩
  | x :: s => by
    unfold Lib.indexByte cutC
    cases hx : (x == c) with
    | true => exact .inr ⟨0, rfl, by simp, by simp⟩
    | false =>
      rcases cutC_index c s with ⟨h1, h2⟩ | ⟨i, h1, h2, h3⟩
      · left; rw [h1, h2]; exact ⟨rfl, rfl⟩
      · right
        refine ⟨i + 1, ?_, by simpa using h2, by rw [h3]; simp⟩
        rw [h1]
        have : ((i : Int) == -1) = false := by simp
        simp [this]
theorem Cut_one {s : Bytes} (c : UInt8) (hs : s.length ≤ maxLen) : strings_Cut s [c] = some (cutC c s) := by
  unfold strings_Cut stringslite_Cut
  rw [sIndex_one, Option.bind_some]
  rcases cutC_index c s with ⟨h1, h2⟩ | ⟨i, h1, h2, h3⟩
  · rw [h1, h2]; rfl
  · rw [h1, h3]
    have e : decide ((i : Int) ≥ (0 : Int)) = true := by simp
    have e2 : IntKind.i64.wrap ((i : Int) + (((([c] : Bytes).length : Nat) : Int))) = ((i + 1 : Nat) : Int) := by
      rw [wrap_i64 (by simp; omega) (by unfold maxLen at hs; simp; omega)]; simp
    rw [e, cond_true, e2]
    have h4 : slc s 0 (i : Int) = some (s.take i) := by unfold slc; rw [chk_pos (by omega)]; simp
    have h5 : slc s ((i + 1 : Nat) : Int) (s.length : Int) = some (s.drop (i + 1)) := by
      unfold slc
      rw [chk_pos (by omega)]
      show some ((s.drop (i + 1)).take (s.length - (i + 1))) = _
      rw [List.take_of_length_le (by rw [List.length_drop]; exact Nat.le_refl _)]
    rw [h4, Option.bind_some, h5]; rfl
theorem Contains_one (s : Bytes) (c : UInt8) : strings_Contains s [c] = some (decide (Lib.indexByte s c ≥ (0 : Int))) := by
  unfold strings_Contains strings_Index
  rw [sIndex_one]; rfl
/-! ### Ends of texts -/
theorem TrimS_tot {s : Bytes} (c : UInt8) (hs : s.length ≤ maxLen) : Tot (strings_TrimSuffix s [c]) (fun r => r.length ≤ s.length) := by
  unfold strings_TrimSuffix
  refine Tot.bind (P := fun r => r.length ≤ s.length) ?_ (fun x hx => .now hx)
  unfold stringslite_TrimSuffix
  refine Tot.bind (P := fun b => b = true → 1 ≤ s.length) ?_ (fun b hb => ?_)
  · unfold stringslite_HasSuffix
    by_cases h : 1 ≤ s.length
    · have e : gslc (decide ((s.length : Int) ≥ ((([c] : Bytes).length : Nat) : Int))) s (IntKind.i64.wrap ((s.length : Int) - ((([c] : Bytes).length : Nat) : Int))) (s.length : Int) = some ((s.drop (s.length - 1)).take (s.length - (s.length - 1))) := by
        unfold gslc
        rw [wrap_i64 (by simp; omega) (by simp; unfold maxLen at hs; omega), chk_pos (fun _ => ⟨by simp; omega, by simp; omega, Int.le_refl _⟩)]
        have : ((s.length : Int) - ((([c] : Bytes).length : Nat) : Int)).toNat = s.length - 1 := by simp
        rw [this, Int.toNat_natCast]
      rw [e, Option.bind_some]
      exact ⟨_, rfl, fun _ => h⟩
    · have h0 : s = [] := List.eq_nil_of_length_eq_zero (by omega)
      subst h0
      exact ⟨_, rfl, fun h => by cases h⟩
  · refine Tot.br (fun h => ?_) (fun _ => .now (Nat.le_refl _))
    have h1 := hb h
    refine Tot.bind (slc_tot ?_) (fun x hx => .now ?_)
    · rw [wrap_i64 (by simp; omega) (by simp; unfold maxLen at hs; omega)]; simp; omega
    · rw [hx]; simp; omega
theorem TrimP_eq {s p : Bytes} (hs : s.length ≤ maxLen) : strings_TrimPrefix s p = some (bif hasPre s p then s.drop p.length else s) := by
  unfold strings_TrimPrefix stringslite_TrimPrefix
  have h := HasPrefix_eq s p
  have h2 : stringslite_HasPrefix s p = some (hasPre s p) := by
    unfold strings_HasPrefix at h
    cases hx : stringslite_HasPrefix s p with
    | none => rw [hx] at h; cases h
    | some y => rw [hx] at h; exact h
  rw [h2, Option.bind_some]
  cases hb : hasPre s p with
  | false => rfl
  | true =>
    have hl : p.length ≤ s.length := by
      unfold hasPre at hb
      obtain ⟨t, rfl⟩ := List.isPrefixOf_iff_prefix.1 hb
      simp
    rw [cond_true, cond_true]
    unfold slc
    rw [chk_pos (by omega)]
    show some ((s.drop p.length).take (s.length - p.length)) = _
    rw [List.take_of_length_le (by simp)]
end Go.Proofs.YtkfoahoplndelaaGreatDoor
namespace Go.Proofs.YtkfoahoplndelaaGreatDoor
open Go Go.Pm
set_option linter.unusedVariables false
set_option maxRecDepth 100000
/-! ### How long a body is -/
def bodyB (asks : Bool) (m : Bytes) (h : S_Message) : S_Body × Int := bif asks then reqB h.Start h.Fields else ansB h.Start h.Fields m
theorem wbody_eq {r : S_Reader} (hs : SSmall r.Head.Start) (hf : FRow r.Head.Fields) : wire_body r = some (bodyB r.Asks r.Method r.Head) := by
  unfold wire_body bodyB
  rw [Request_eq hs hf, Answer_eq hs hf]
  cases r.Asks <;> rfl
def KindOk (b : S_Body) : Prop := b = B 0 0 ∨ (∃ z : Int, 0 ≤ z ∧ z ≤ 20000 ∧ b = B 1 z) ∨ b = B 2 0 ∨ b = B 3 0
theorem sayFold {n : S_Body} (hn : n = B 0 0 ∨ n = B 3 0) : ∀ (l : List Bytes) (c : Option Int), (foldE sayStep (sayFin n) l c).2 = 0 → KindOk (foldE sayStep (sayFin n) l c).1
  | [], none, _ => by
    unfold foldE sayFin
    rcases hn with rfl | rfl
    · exact .inl rfl
    · exact .inr (.inr (.inr rfl))
  | [], some z, h => by
    unfold foldE sayFin at h ⊢
    dsimp only at h ⊢
    by_cases h1 : z < 0
    · rw [decide_eq_true h1] at h; cases h
    · rw [decide_eq_false h1] at h ⊢
      by_cases h2 : z > 20000
      · rw [decide_eq_true h2] at h; cases h
      · rw [decide_eq_false h2]
        exact .inr (.inl ⟨z, by omega, by omega, rfl⟩)
  | x :: l, c, h => by
    rw [foldE_cons] at h ⊢
    cases hs : sayStep c x with
    | inl c' => rw [hs] at h; exact sayFold hn l c' h
    | inr r =>
      rw [hs] at h
      exfalso
      unfold sayStep at hs
      cases hd : ((dec x).2 == 10) with
      | true => rw [hd, cond_true] at hs; cases hs; cases h
      | false =>
        rw [hd, cond_false] at hs
        cases c with
        | none => cases hs
        | some z =>
          cases hz : (sizeOf x == z) with
          | true => simp only [hz, cond_true] at hs; cases hs
          | false => simp only [hz, cond_false] at hs; cases hs; cases h
theorem say_kindW {mi : Int} {l : List S_Field} {n : S_Body} (hn : n = B 0 0 ∨ n = B 3 0) (h : (sayB mi l n).2 = 0) : KindOk (sayB mi l n).1 := by
  unfold sayB at h ⊢
  cases h1 : decide ((valsN l nTE).length > 0) with
  | false => rw [h1, cond_false] at h; rw [cond_false]; exact sayFold hn _ _ h
  | true =>
    rw [h1, cond_true] at h
    rw [cond_true]
    cases h2 : (decide ((valsN l nCL).length > 0) || (mi == 0 || !(lower (Lib.join (valsN l nTE) sep) == chunked))) with
    | true => rw [h2, cond_true] at h; cases h
    | false => rw [cond_false]; exact .inr (.inr (.inl rfl))
structure BodyOk (asks : Bool) (h : S_Message) (b : S_Body) : Prop where
  start : startB h.Start = true
  fields : rightB h.Fields = true
  code : (h.Start.Code == (0 : Int)) = asks
  kind : KindOk b
theorem bodyB_ok {asks : Bool} {m : Bytes} {h : S_Message} (h0 : (bodyB asks m h).2 = 0) : BodyOk asks h (bodyB asks m h).1 := by
  unfold bodyB at h0 ⊢
  cases asks with
  | true =>
    rw [cond_true] at h0 ⊢
    unfold reqB at h0 ⊢
    cases h1 : startB h.Start with
    | false => rw [h1] at h0; cases h0
    | true =>
      cases h2 : (h.Start.Code != (0 : Int)) with
      | true => rw [h1, h2] at h0; cases h0
      | false =>
        cases h3 : rightB h.Fields with
        | false => rw [h1, h2, h3] at h0; cases h0
        | true =>
          rw [h1, h2, h3] at h0
          exact ⟨h1, h3, by simpa using h2, say_kindW (.inl rfl) h0⟩
  | false =>
    rw [cond_false] at h0 ⊢
    unfold ansB at h0 ⊢
    cases h1 : startB h.Start with
    | false => rw [h1] at h0; cases h0
    | true =>
      cases h2 : (h.Start.Code == (0 : Int)) with
      | true => rw [h1, h2] at h0; cases h0
      | false =>
        cases h3 : rightB h.Fields with
        | false => rw [h1, h2, h3] at h0; cases h0
        | true =>
          rw [h1, h2, h3] at h0
          refine ⟨h1, h3, h2, ?_⟩
          revert h0
          show (bif (decide (h.Start.Code < 200) || (h.Start.Code == 204 || (h.Start.Code == 304 || m == ([72, 69, 65, 68] : Bytes)))) then (B 0 0, 0) else sayB h.Start.Minor h.Fields (B 3 0)).2 = (0 : Int) → KindOk (bif (decide (h.Start.Code < 200) || (h.Start.Code == 204 || (h.Start.Code == 304 || m == ([72, 69, 65, 68] : Bytes)))) then (B 0 0, (0 : Int)) else sayB h.Start.Minor h.Fields (B 3 0)).1
          cases (decide (h.Start.Code < 200) || (h.Start.Code == 204 || (h.Start.Code == 304 || m == ([72, 69, 65, 68] : Bytes)))) with
          | true => intro _; exact .inl rfl
          | false => intro h0; exact say_kindW (.inr rfl) h0
/-! ### Chunks -/
structure ChOk (c : S_Chunked) : Prop where
  stage : 0 ≤ c.Stage ∧ c.Stage ≤ 4
  size : 0 ≤ c.Size ∧ c.Size ≤ 20000
  line : c.Line.length ≤ 200 ∧ c.Line.contains 10 = false
  data : c.Stage = 1 → 1 ≤ c.Left ∧ c.Left ≤ 20000 - c.Size ∧ c.Line = []
  rest : c.Stage ≠ 1 → c.Left = 0 ∧ (c.Stage = 4 → c.Line = [])
theorem chRight {c : S_Chunked} : Tot (chunk_Right c) (fun b => b = true ↔ ChOk c) := by
  unfold chunk_Right
  by_cases h : (0 ≤ c.Stage ∧ c.Stage ≤ 4) ∧ (0 ≤ c.Size ∧ c.Size ≤ 20000) ∧ c.Line.length ≤ 200
  · obtain ⟨⟨h1, h2⟩, ⟨h3', h4⟩, h5⟩ := h
    have e : (bif (bif (bif (bif (decide ((c.Stage) < (0 : Int))) then true else (decide ((c.Stage) > (4 : Int)))) then true else (decide ((c.Size) < (0 : Int)))) then true else (decide ((c.Size) > (20000 : Int)))) then true else (decide (((c.Line).length : Int) > (200 : Int)))) = false := by
      rw [decide_eq_false (by omega), decide_eq_false (by omega), decide_eq_false (by omega), decide_eq_false (by omega), decide_eq_false (by omega)]; rfl
    rw [e, gcall_tt (show (!false) = true from rfl), Contains_one, Option.bind_some, indexByte_has, cond_false]
    cases hl : c.Line.contains 10 with
    | true => exact Tot.eq rfl (show (false = true ↔ ChOk c) from ⟨fun h => (by cases h), fun h => absurd (h.line.2.symm.trans hl) (by simp)⟩)
    | false =>
      rw [cond_false]
      by_cases h6 : c.Stage = 1
      · have e6 : (c.Stage == (1 : Int)) = true := by simp [h6]
        rw [e6, cond_true]
        have ew : IntKind.i64.wrap ((20000 : Int) - c.Size) = 20000 - c.Size := wrap_i64 (by omega) (by omega)
        rw [ew]
        refine ⟨_, rfl, ⟨fun h => ?_, fun h => ?_⟩⟩
        · cases d1 : decide (c.Left ≥ 1) with
          | false => rw [d1] at h; cases h
          | true =>
            cases d2 : decide (c.Left ≤ 20000 - c.Size) with
            | false => rw [d1, d2] at h; cases h
            | true =>
              rw [d1, d2] at h
              have h3 : (c.Line == ([] : Bytes)) = true := h
              exact ⟨⟨h1, h2⟩, ⟨h3', h4⟩, ⟨h5, hl⟩, fun _ => ⟨of_decide_eq_true d1, of_decide_eq_true d2, eq_of_beq h3⟩, fun hn => absurd h6 hn⟩
        · obtain ⟨g1, g2, g3⟩ := h.data h6
          rw [decide_eq_true g1, decide_eq_true g2, g3]; rfl
      · have e6 : (c.Stage == (1 : Int)) = false := by simp [h6]
        rw [e6, cond_false]
        refine ⟨_, rfl, ⟨fun h => ?_, fun h => ?_⟩⟩
        · by_cases h7 : c.Left = 0
          · refine ⟨⟨h1, h2⟩, ⟨h3', h4⟩, ⟨h5, hl⟩, fun hn => absurd hn h6, fun _ => ⟨h7, fun h8 => ?_⟩⟩
            rw [h7, h8] at h
            simpa using h
          · have : (c.Left == (0 : Int)) = false := by simp [h7]
            rw [this] at h; cases h
        · obtain ⟨g1, g2⟩ := h.rest h6
          rw [g1]
          by_cases h8 : c.Stage = 4
          · rw [g2 h8, h8]; rfl
          · have : (c.Stage != (4 : Int)) = true := by simp [h8]
            rw [this]; rfl
  · have e : (bif (bif (bif (bif (decide ((c.Stage) < (0 : Int))) then true else (decide ((c.Stage) > (4 : Int)))) then true else (decide ((c.Size) < (0 : Int)))) then true else (decide ((c.Size) > (20000 : Int)))) then true else (decide (((c.Line).length : Int) > (200 : Int)))) = true := by
      by_cases h1 : c.Stage < 0
      · rw [decide_eq_true h1]; rfl
      rw [decide_eq_false h1]
      by_cases h2 : c.Stage > 4
      · rw [decide_eq_true h2]; rfl
      rw [decide_eq_false h2]
      by_cases h3 : c.Size < 0
      · rw [decide_eq_true h3]; rfl
      rw [decide_eq_false h3]
      by_cases h4 : c.Size > 20000
      · rw [decide_eq_true h4]; rfl
      rw [decide_eq_false h4]
      have h5 : ((c.Line).length : Int) > (200 : Int) := by omega
      rw [decide_eq_true h5]; rfl
    rw [e, gcall_ff (show (!true) = false from rfl), Option.bind_some]
    exact Tot.eq rfl (show (false = true ↔ ChOk c) from ⟨fun h => (by cases h), fun hc => absurd ⟨hc.stage, hc.size, hc.line.1⟩ h⟩)
end Go.Proofs.YtkfoahoplndelaaGreatDoor
namespace Go.Proofs.YtkfoahoplndelaaGreatDoor
open Go Go.Pm
set_option linter.unusedVariables false
set_option maxRecDepth 100000
theorem imin_cases (a b : Int) : (imin a b = a ∧ a ≤ b) ∨ (imin a b = b ∧ b ≤ a) := by
  unfold imin
  split <;> omega
def zeroM : S_Message := S_Message.mk zeroS [] []
def zeroC : S_Chunked := S_Chunked.mk 0 [] 0 0
structure RIn (a : Bool) (m : Bytes) (h : S_Message) (b : S_Body) (c : S_Chunked) : Prop where
  start : SSmall h.Start
  fields : FRow h.Fields
  body : bodyB a m h = (b, 0)
  len : h.Body.length ≤ 40000
  noch : b.Kind ≠ 2 → c = zeroC
  k1 : b.Kind = 1 → (h.Body.length : Int) ≤ b.Size
  k2 : b.Kind = 2 → ChOk c ∧ c.Stage ≠ 4 ∧ c.Size = (h.Body.length : Int)
  k3 : b.Kind = 3 → h.Body.length ≤ 20000
inductive XOk (a : Bool) (m : Bytes) : S_Reader → Prop
  | bad (e : Int) (he : e ≠ 0) : XOk a m (S_Reader.mk a m [] false zeroM (B 0 0) zeroC e)
  | out (b : Bytes) (hb : b.length ≤ 4000) : XOk a m (S_Reader.mk a m b false zeroM (B 0 0) zeroC 0)
  | inn (h : S_Message) (b : S_Body) (c : S_Chunked) (hr : RIn a m h b c) (h1 : b.Kind = 1 → (h.Body.length : Int) < b.Size) (h0 : b.Kind ≠ 0) : XOk a m (S_Reader.mk a m [] true h b c 0)
theorem RIn.kind {a : Bool} {m : Bytes} {h : S_Message} {b : S_Body} {c : S_Chunked} (hr : RIn a m h b c) : BodyOk a h b := by
  have := bodyB_ok (asks := a) (m := m) (h := h) (by rw [hr.body])
  rw [hr.body] at this
  exact this
theorem whole_eq {w : S_wire_reading} (h : w.out.length ≤ 1000000) : wire_reading_whole w = some (true, S_wire_reading.mk (S_Reader.mk w.Reader.Asks w.Reader.Method w.Reader.Buf false zeroM (B 0 0) zeroC w.Reader.Bad) (w.out ++ [w.Reader.Head])) := by
  unfold wire_reading_whole app
  rw [chk_pos (by unfold maxLen; simp; omega), Option.bind_some]
  rfl
/-! ### Heads -/
def setBuf (w : S_wire_reading) (b : Bytes) : S_wire_reading := S_wire_reading.mk (S_Reader.mk w.Reader.Asks w.Reader.Method b w.Reader.In w.Reader.Head w.Reader.Body w.Reader.Chunk w.Reader.Bad) w.out
noncomputable def skipB (w : S_wire_reading) (b : Bytes) : Option (S_wire_reading ⊕ S_wire_reading) :=
  (gcall w.Reader.Asks (strings_HasPrefix b ([10] : Bytes))).bind fun x3 => (gcall (w.Reader.Asks && (!x3)) (strings_HasPrefix b ([13, 10] : Bytes))).bind fun x4 =>
  bif (bif w.Reader.Asks then (bif x3 then true else x4) else false) then ((strings_TrimPrefix b ([13] : Bytes)).bind fun x5 => (strings_TrimPrefix x5 ([10] : Bytes)).bind fun x6 => some (.inl (setBuf w x6))) else some (.inr (setBuf w b))
theorem hasPre_len {s p : Bytes} (h : hasPre s p = true) : p.length ≤ s.length := by
  unfold hasPre at h
  obtain ⟨t, rfl⟩ := List.isPrefixOf_iff_prefix.1 h
  simp
noncomputable def begT (rd : Bytes → Option (S_Start × Int)) (j1 : S_wire_reading) (e : Int) (x10 : Bytes × Bytes × Bool) : Option (Bool × S_wire_reading) :=
        (strings_TrimSuffix (x10.1) ([13] : Bytes)).bind fun x11 =>
        (rd x11).bind fun x12 =>
        bif ((x12.2) != (0 : Int)) then
          (wire_reading_fail (S_wire_reading.mk (S_Reader.mk ((j1.Reader).Asks) ((j1.Reader).Method) ((j1.Reader).Buf) ((j1.Reader).In) (S_Message.mk (x12.1) (((j1.Reader).Head).Fields) (((j1.Reader).Head).Body)) ((j1.Reader).Body) ((j1.Reader).Chunk) ((j1.Reader).Bad)) (j1.out)) (x12.2)).bind fun x13 =>
          some ((x13.1), (x13.2))
        else
          (strings_TrimSuffix (x10.2.1) ([10] : Bytes)).bind fun x14 =>
          (strings_TrimSuffix x14 ([13] : Bytes)).bind fun x15 =>
          (head_Parse x15).bind fun x16 =>
          bif ((x16.2) != (0 : Int)) then
            (wire_reading_fail (S_wire_reading.mk (S_Reader.mk ((j1.Reader).Asks) ((j1.Reader).Method) ((j1.Reader).Buf) ((j1.Reader).In) (S_Message.mk (x12.1) (x16.1) (((j1.Reader).Head).Body)) ((j1.Reader).Body) ((j1.Reader).Chunk) ((j1.Reader).Bad)) (j1.out)) (x16.2)).bind fun x17 =>
            some ((x17.1), (x17.2))
          else
            (wire_body (S_Reader.mk ((j1.Reader).Asks) ((j1.Reader).Method) ((j1.Reader).Buf) ((j1.Reader).In) (S_Message.mk (x12.1) (x16.1) (((j1.Reader).Head).Body)) ((j1.Reader).Body) ((j1.Reader).Chunk) ((j1.Reader).Bad))).bind fun x18 =>
            bif ((x18.2) != (0 : Int)) then
              (wire_reading_fail (S_wire_reading.mk (S_Reader.mk ((j1.Reader).Asks) ((j1.Reader).Method) ((j1.Reader).Buf) ((j1.Reader).In) (S_Message.mk (x12.1) (x16.1) (((j1.Reader).Head).Body)) (x18.1) ((j1.Reader).Chunk) ((j1.Reader).Bad)) (j1.out)) (x18.2)).bind fun x19 =>
              some ((x19.1), (x19.2))
            else
              (slc ((j1.Reader).Buf) e (((j1.Reader).Buf).length : Int)).bind fun x20 =>
              bif (bif (((x12.1).Code) != (0 : Int)) then (decide (((x12.1).Code) < (200 : Int))) else false) then
                some (true, (S_wire_reading.mk (S_Reader.mk ((j1.Reader).Asks) ((j1.Reader).Method) x20 ((j1.Reader).In) (S_Message.mk (S_Start.mk ([] : Bytes) ([] : Bytes) (0 : Int) ([] : Bytes) (0 : Int)) ([] : List S_Field) ([] : Bytes)) (S_Body.mk (0 : Int) (0 : Int)) ((j1.Reader).Chunk) ((j1.Reader).Bad)) (j1.out)))
              else
                some (true, (S_wire_reading.mk (S_Reader.mk ((j1.Reader).Asks) ((j1.Reader).Method) x20 true (S_Message.mk (x12.1) (x16.1) (((j1.Reader).Head).Body)) (x18.1) ((j1.Reader).Chunk) ((j1.Reader).Bad)) (j1.out)))
theorem begin_eq (w : S_wire_reading) : wire_reading_begin w = (loopO (wire_reading_begin_b1) w).bind fun j1 => (head_End ((j1.Reader).Buf)).bind fun x7 =>
  bif ((x7.2) == (3 : Int)) then some (false, j1)
  else bif ((x7.2) != (0 : Int)) then (wire_reading_fail j1 (x7.2)).bind fun x8 => some ((x8.1), (x8.2))
  else (slc ((j1.Reader).Buf) 0 (x7.1)).bind fun x9 => (strings_Cut x9 ([10] : Bytes)).bind fun x10 =>
    bif (j1.Reader).Asks then begT start_Parse j1 (x7.1) x10 else begT start_Status j1 (x7.1) x10 := rfl
end Go.Proofs.YtkfoahoplndelaaGreatDoor
namespace Go.Proofs.YtkfoahoplndelaaGreatDoor
open Go Go.Pm
set_option linter.unusedVariables false
set_option maxRecDepth 100000
theorem empty_tot (h : S_Message) : Tot (wire_empty h) (fun b => b = true ↔ h = zeroM) := by
  unfold wire_empty
  refine .now ?_
  obtain ⟨⟨a, b, c, d, e⟩, f, g⟩ := h
  unfold zeroM zeroS
  cases f <;> simp [and_assoc] <;> intros <;> omega
theorem bare_tot (r : S_Reader) : Tot (wire_bare r) (fun b => b = true ↔ (r.Buf = [] ∧ r.In = false ∧ r.Head = zeroM ∧ r.Body = B 0 0 ∧ r.Chunk = zeroC)) := by
  obtain ⟨A, M, Bf, I, H, ⟨k, z⟩, ⟨c1, c2, c3, c4⟩, E⟩ := r
  obtain ⟨x, hx, hi⟩ := empty_tot H
  unfold wire_bare
  rw [show gcall _ (wire_empty (S_Reader.mk A M Bf I H (S_Body.mk k z) (S_Chunked.mk c1 c2 c3 c4) E).Head) = _ from gcall_val (fun _ => hx), Option.bind_some]
  refine .now ?_
  unfold B zeroC
  dsimp only
  cases hb : (Bf == ([] : Bytes)) with
  | false =>
    have : Bf ≠ [] := by simpa using hb
    simp [this]
  | true =>
    have hb : Bf = [] := by simpa using hb
    cases I with
    | true => simp
    | false =>
      cases x with
      | false =>
        have : H ≠ zeroM := fun h => by have := hi.2 h; cases this
        simp [this]
      | true => simp [hb, hi.1 rfl, and_assoc]
theorem bodyEq (a b : S_Body) : ((a.Kind == b.Kind) && ((a.Size == b.Size) && true)) = true ↔ a = b := by
  obtain ⟨a1, a2⟩ := a
  obtain ⟨b1, b2⟩ := b
  simp
theorem zeroCh (c : S_Chunked) : ((c.Stage == (0 : Int)) && ((c.Line == ([] : Bytes)) && ((c.Left == (0 : Int)) && ((c.Size == (0 : Int)) && true)))) = true ↔ c = zeroC := by
  obtain ⟨c1, c2, c3, c4⟩ := c
  unfold zeroC
  simp
theorem right_tot {r : S_Reader} (hs : SSmall r.Head.Start) (hf : FRow r.Head.Fields) (hl : r.Head.Body.length ≤ 40000) : Tot (wire_Right r) (fun b => b = true ↔ XOk r.Asks r.Method r) := by
  obtain ⟨A, M, Bf, I, H, Bd, C, E⟩ := r
  simp only at hs hf hl
  unfold wire_Right
  dsimp only
  by_cases hE : E = 0
  · subst hE
    rw [show ((0 : Int) != 0) = false from rfl, cond_false]
    cases I with
    | false =>
      rw [show (!false) = true from rfl, cond_true]
      obtain ⟨x, hx, hi⟩ := bare_tot (S_Reader.mk A M [] false H Bd C 0)
      rw [hx, Option.bind_some]
      refine .now ⟨fun h => ?_, fun h => ?_⟩
      · cases x with
        | false => cases h
        | true =>
          have hb : decide ((Bf.length : Int) ≤ 4000) = true := h
          have hb := of_decide_eq_true hb
          obtain ⟨_, _, h1, h2, h3⟩ := hi.1 rfl
          simp only at h1 h2 h3
          subst h1 h2 h3
          exact .out _ (by omega)
      · have : H = zeroM ∧ Bd = B 0 0 ∧ C = zeroC ∧ Bf.length ≤ 4000 := by
          cases h with
          | bad e he => exact absurd rfl he
          | out _ hb => exact ⟨rfl, rfl, rfl, hb⟩
        obtain ⟨rfl, rfl, rfl, hb⟩ := this
        rw [hi.2 ⟨rfl, rfl, rfl, rfl, rfl⟩, cond_true]
        exact decide_eq_true (by omega)
    | true =>
      rw [show (!true) = false from rfl, cond_false, wbody_eq (r := S_Reader.mk A M Bf true H Bd C 0) hs hf, Option.bind_some]
      show Tot (bif (bif (bif (bif (((bodyB A M H)).2 != (0 : Int)) then true else (!((((bodyB A M H).1.Kind) == (Bd.Kind)) && ((((bodyB A M H).1.Size) == (Bd.Size)) && true)))) then true else (!(Bf == ([] : Bytes)))) then true else (bif (((bodyB A M H).1.Kind) != (2 : Int)) then (!(((C.Stage) == (0 : Int)) && (((C.Line) == ([] : Bytes)) && (((C.Left) == (0 : Int)) && (((C.Size) == (0 : Int)) && true))))) else false)) then _ else _) _
      have key : XOk A M (S_Reader.mk A M Bf true H Bd C 0) → bodyB A M H = (Bd, 0) ∧ Bf = [] ∧ RIn A M H Bd C ∧ (Bd.Kind = 1 → (H.Body.length : Int) < Bd.Size) ∧ Bd.Kind ≠ 0 := fun h => by
        cases h with
        | inn _ _ _ hr h1 h0 => exact ⟨hr.body, rfl, hr, h1, h0⟩
      generalize hbb : bodyB A M H = bb at key ⊢
      by_cases h2 : bb.2 = 0
      · rw [show (bb.2 != (0 : Int)) = false by rw [h2]; rfl, cond_false]
        cases hb : ((bb.1.Kind == Bd.Kind) && ((bb.1.Size == Bd.Size) && true)) with
        | false =>
          refine .now ⟨fun h => (by cases h), fun h => ?_⟩
          have := (key h).1
          have : (bb.1.Kind == Bd.Kind) && ((bb.1.Size == Bd.Size) && true) := (bodyEq _ _).2 (by rw [this])
          rw [this] at hb
          cases hb
        | true =>
          have hb := (bodyEq _ _).1 hb
          subst hb
          rw [show (!true) = false from rfl, cond_false]
          cases hf0 : (Bf == ([] : Bytes)) with
          | false =>
            refine .now ⟨fun h => (by cases h), fun h => ?_⟩
            have := (key h).2.1
            rw [this] at hf0
            cases hf0
          | true =>
            have hf0 : Bf = [] := by simpa using hf0
            subst hf0
            rw [show (!true) = false from rfl, cond_false]
            have hbody : bodyB A M H = (bb.1, 0) := by rw [hbb, ← h2]
            have hko := (bodyB_ok (asks := A) (m := M) (h := H) (by rw [hbody])).kind
            rw [hbody] at hko
            have hko : KindOk bb.1 := hko
            generalize bb.1 = Bd at *
            cases hc : (bif (Bd.Kind != (2 : Int)) then (!(((C.Stage) == (0 : Int)) && (((C.Line) == ([] : Bytes)) && (((C.Left) == (0 : Int)) && (((C.Size) == (0 : Int)) && true))))) else false) with
            | true =>
              refine .now ⟨fun h => (by cases h), fun h => ?_⟩
              have hr := (key h).2.2.1
              by_cases hk : Bd.Kind = 2
              · rw [hk] at hc; cases hc
              · have := hr.noch hk
                subst this
                rw [(zeroCh zeroC).2 rfl] at hc
                have e : (Bd.Kind != (2 : Int)) = true := by simpa using hk
                rw [e] at hc
                cases hc
            | false =>
              have hnc : Bd.Kind ≠ 2 → C = zeroC := fun hk => by
                have e : (Bd.Kind != (2 : Int)) = true := by simpa using hk
                rw [e, cond_true] at hc
                refine (zeroCh C).1 ?_
                simpa using hc
              rw [cond_false]
              rcases hko with rfl | ⟨z, hz0, hz1, rfl⟩ | rfl | rfl
              · refine .now ⟨fun h => (by cases h), fun h => absurd rfl (key h).2.2.2.2⟩
              · refine .now ⟨fun h => ?_, fun h => ?_⟩
                · have h := of_decide_eq_true h
                  have h : (H.Body.length : Int) < z := h
                  exact .inn _ _ _ ⟨hs, hf, hbody, hl, hnc, fun _ => by show (H.Body.length : Int) ≤ z; omega, fun h => (by cases h), fun h => (by cases h)⟩ (fun _ => h) (by simp [B])
                · exact decide_eq_true ((key h).2.2.2.1 rfl)
              · obtain ⟨x, hx, hi⟩ := chRight (c := C)
                show Tot ((chunk_Right C).bind _) _
                rw [hx, Option.bind_some]
                refine .now ⟨fun h => ?_, fun h => ?_⟩
                · cases x with
                  | false => cases h
                  | true =>
                    cases h4 : (C.Stage != (4 : Int)) with
                    | false => rw [cond_true, h4] at h; cases h
                    | true =>
                      rw [cond_true, h4, cond_true] at h
                      exact .inn _ _ _ ⟨hs, hf, hbody, hl, hnc, fun h => (by cases h), fun _ => ⟨hi.1 rfl, by simpa using h4, by simpa using h⟩, fun h => (by cases h)⟩ (fun h => by cases h) (by simp [B])
                · obtain ⟨g1, g2, g3⟩ := (key h).2.2.1.k2 rfl
                  rw [hi.2 g1, cond_true, show (C.Stage != (4 : Int)) = true by simpa using g2, cond_true, g3]
                  simp
              · refine .now ⟨fun h => ?_, fun h => ?_⟩
                · have h := of_decide_eq_true h
                  exact .inn _ _ _ ⟨hs, hf, hbody, hl, hnc, fun h => (by cases h), fun h => (by cases h), fun _ => by omega⟩ (fun h => by cases h) (by simp [B])
                · have := (key h).2.2.1.k3 rfl
                  exact decide_eq_true (by omega)
      · have e : (bb.2 != (0 : Int)) = true := by simpa using h2
        rw [e, cond_true, cond_true, cond_true, cond_true]
        refine .now ⟨fun h => (by cases h), fun h => ?_⟩
        have := (key h).1
        rw [this] at h2
        exact absurd rfl h2
  · have e : (E != (0 : Int)) = true := by simpa using hE
    rw [e, cond_true]
    obtain ⟨x, hx, hi⟩ := bare_tot (S_Reader.mk A M Bf I H Bd C E)
    rw [hx, Option.bind_some]
    refine .now ⟨fun h => ?_, fun h => hi.2 ?_⟩
    · obtain ⟨h1, h2, h3, h4, h5⟩ := hi.1 h
      simp only at h1 h2 h3 h4 h5
      subst h1 h2 h3 h4 h5
      exact .bad _ hE
    · cases h with
      | bad => exact ⟨rfl, rfl, rfl, rfl, rfl⟩
      | out => exact absurd rfl hE
      | inn => exact absurd rfl hE
theorem zeroM_small : SSmall zeroM.Start ∧ FRow zeroM.Fields := ⟨⟨Nat.zero_le _, Nat.zero_le _, Nat.zero_le _⟩, ⟨by simp [zeroM], fun f hf => by cases hf⟩⟩
theorem XOk.head {a : Bool} {m : Bytes} {r : S_Reader} (h : XOk a m r) : SSmall r.Head.Start ∧ FRow r.Head.Fields ∧ r.Head.Body.length ≤ 40000 := by
  cases h with
  | bad => exact ⟨zeroM_small.1, zeroM_small.2, Nat.zero_le _⟩
  | out => exact ⟨zeroM_small.1, zeroM_small.2, Nat.zero_le _⟩
  | inn _ _ _ hr => exact ⟨hr.start, hr.fields, hr.len⟩
theorem XOk.asks {a : Bool} {m : Bytes} {r : S_Reader} (h : XOk a m r) : r.Asks = a ∧ r.Method = m := by
  cases h <;> exact ⟨rfl, rfl⟩
theorem XOk.right {a : Bool} {m : Bytes} {r : S_Reader} (h : XOk a m r) : wire_Right r = some true := by
  obtain ⟨h1, h2, h3⟩ := h.head
  obtain ⟨x, hx, hi⟩ := right_tot h1 h2 h3
  rw [hx, hi.2 (by rw [h.asks.1, h.asks.2]; exact h)]
theorem XOk.buf {a : Bool} {m : Bytes} {r : S_Reader} (h : XOk a m r) : r.Buf.length ≤ 4000 := by
  cases h with
  | bad => exact Nat.zero_le _
  | out _ hb => exact hb
  | inn => exact Nat.zero_le _
theorem XOk.body {a : Bool} {m : Bytes} {r : S_Reader} (h : XOk a m r) : r.Head.Body.length ≤ 20000 := by
  cases h with
  | bad => exact Nat.zero_le _
  | out => exact Nat.zero_le _
  | inn h b c hr h1 h0 =>
    show h.Body.length ≤ 20000
    rcases hr.kind.kind with rfl | ⟨z, hz0, hz1, rfl⟩ | rfl | rfl
    · exact absurd rfl h0
    · have : (h.Body.length : Int) < z := h1 rfl
      omega
    · obtain ⟨g1, _, g3⟩ := hr.k2 rfl
      have := g1.size
      omega
    · exact hr.k3 rfl
/-! ### It runs -/
def aliveL : Bytes := [71, 69, 84, 32, 47, 32, 72, 84, 84, 80, 47, 49, 46, 49]
def aliveS : S_Start := S_Start.mk [71, 69, 84] [47] 0 [] 1
theorem alive_line : start_Parse aliveL = some (aliveS, 0) := by
  have hp : printB aliveS = aliveL := by kernel_rfl
  rw [Parse_eq (by decide), ← hp, (print0 (s := aliveS) (by kernel_rfl) rfl).1]
theorem Like10_refl {h : S_Message} (hl : h.Fields.length ≤ maxLen) : intarsiaref10_Like h h = some true := by
  unfold intarsiaref10_Like
  rw [gcall_val (fun _ => Like_refl hl), Option.bind_some]
  simp
theorem LikeR_refl {r : S_Reader} (hl : r.Head.Fields.length ≤ maxLen) : intarsiaref10_LikeReader r r = some true := by
  unfold intarsiaref10_LikeReader
  rw [gcall_val (fun _ => Like10_refl hl), Option.bind_some]
  simp
end Go.Proofs.YtkfoahoplndelaaGreatDoor
namespace Go.Proofs.YtkfoahoplndelaaGreatDoor
open Go Go.Pm
set_option linter.unusedVariables false
set_option maxRecDepth 100000
theorem loop_opt {σ ρ : Type} {body : σ → Option (σ ⊕ ρ)} (μ : σ → Nat) (Inv : σ → Prop) (V : σ → Option ρ)
    (h : ∀ x, Inv x → (∃ y, body x = some (.inl y) ∧ Inv y ∧ μ y < μ x ∧ V x = V y) ∨ ∃ r, body x = some (.inr r) ∧ V x = some r) : ∀ x, Inv x → loopO body x = V x := by
  have key : ∀ n x, μ x ≤ n → Inv x → loopO body x = V x := by
    intro n
    induction n with
    | zero =>
      intro x hx hi
      rw [loopO_eq]
      rcases h x hi with ⟨y, h1, h2, h3, h4⟩ | ⟨r, h1, h2⟩
      · omega
      · rw [h1, h2]
    | succ n ih =>
      intro x hx hi
      rw [loopO_eq]
      rcases h x hi with ⟨y, h1, h2, h3, h4⟩ | ⟨r, h1, h2⟩
      · rw [h1, h4]; exact ih y (by omega) h2
      · rw [h1, h2]
  exact fun x => key (μ x) x (Nat.le_refl _)
theorem cutC_parts (c : UInt8) : ∀ s : Bytes, (cutC c s = (s, [], false) ∧ s.contains c = false) ∨ ∃ u r, cutC c s = (u, r, true) ∧ s = u ++ c :: r ∧ u.contains c = false
  | [] => .inl ⟨rfl, rfl⟩
  | x :: s => by
    unfold cutC
    cases hx : (x == c) with
    | true => exact .inr ⟨[], s, rfl, by rw [eq_of_beq hx]; rfl, rfl⟩
    | false =>
      have hx' : (c == x) = false := by
        cases h : (c == x) with
        | false => rfl
        | true => rw [eq_of_beq h] at hx; simp at hx
      rcases cutC_parts c s with ⟨h1, h2⟩ | ⟨u, r, h1, h2, h3⟩
      · left; rw [h1]; exact ⟨rfl, by rw [List.contains_cons, hx', h2]; rfl⟩
      · right; rw [h1]; exact ⟨x :: u, r, rfl, by rw [h2]; rfl, by rw [List.contains_cons, hx', h3]; rfl⟩
end Go.Proofs.YtkfoahoplndelaaGreatDoor
namespace Go.Proofs.YtkfoahoplndelaaGreatDoor
open Go Go.Pm
set_option linter.unusedVariables false
set_option maxRecDepth 100000
/-! ### Lines -/
noncomputable def trimR (s : Bytes) : Bytes := (strings_TrimSuffix s [13]).getD []
theorem trimR_eq {s : Bytes} (hs : s.length ≤ maxLen) : strings_TrimSuffix s [13] = some (trimR s) := by
  obtain ⟨x, hx, _⟩ := TrimS_tot 13 hs
  unfold trimR
  rw [hx]; rfl
noncomputable def rowsA : Bytes → Nat → Bytes → List (Bytes × Int)
  | _, _, [] => []
  | acc, a, x :: s => bif x == 10 then (trimR acc, ((a + 1 : Nat) : Int)) :: rowsA [] (a + 1) s else rowsA (acc ++ [x]) (a + 1) s
theorem rowsA_nil (acc : Bytes) (a : Nat) : rowsA acc a [] = [] := by unfold rowsA; rfl
theorem rowsA_cons (acc : Bytes) (a : Nat) (x : UInt8) (s : Bytes) : rowsA acc a (x :: s) = bif x == 10 then (trimR acc, ((a + 1 : Nat) : Int)) :: rowsA [] (a + 1) s else rowsA (acc ++ [x]) (a + 1) s := by
  conv => lhs; unfold rowsA
theorem rowsA_line : ∀ (u acc : Bytes) (a : Nat) (r : Bytes), u.contains 10 = false → rowsA acc a (u ++ r) = rowsA (acc ++ u) (a + u.length) r
  | [], acc, a, r, _ => by simp
  | x :: u, acc, a, r, hu => by
    rw [List.contains_cons, Bool.or_eq_false_iff] at hu
    have hx : (x == 10) = false := by
      cases h : (x == 10) with
      | false => rfl
      | true => rw [eq_of_beq h] at hu; simp at hu
    rw [List.cons_append, rowsA_cons, hx, cond_false, rowsA_line u _ _ r hu.2]
    have e1 : acc ++ [x] ++ u = acc ++ x :: u := by simp
    have e2 : a + 1 + u.length = a + (x :: u).length := by simp; omega
    rw [e1, e2]
theorem rowsA_append : ∀ (s acc : Bytes) (a : Nat) (t : Bytes), ∃ acc', rowsA acc a (s ++ t) = rowsA acc a s ++ rowsA acc' (a + s.length) t
  | [], acc, a, t => ⟨acc, by rw [rowsA_nil]; rfl⟩
  | x :: s, acc, a, t => by
    have e2 : a + 1 + s.length = a + (x :: s).length := by simp; omega
    cases hx : (x == 10) with
    | true =>
      obtain ⟨acc', h⟩ := rowsA_append s [] (a + 1) t
      refine ⟨acc', ?_⟩
      rw [List.cons_append, rowsA_cons, rowsA_cons, hx, cond_true, cond_true, h, e2]
      rfl
    | false =>
      obtain ⟨acc', h⟩ := rowsA_append s (acc ++ [x]) (a + 1) t
      refine ⟨acc', ?_⟩
      rw [List.cons_append, rowsA_cons, rowsA_cons, hx, cond_false, cond_false, h, e2]
theorem rowsA_pos : ∀ (s acc : Bytes) (a : Nat) (x : Bytes × Int), x ∈ rowsA acc a s → (a : Int) < x.2
  | [], acc, a, x, h => by rw [rowsA_nil] at h; cases h
  | y :: s, acc, a, x, h => by
    rw [rowsA_cons] at h
    cases hy : (y == 10) with
    | true =>
      rw [hy, cond_true] at h
      rcases List.mem_cons.1 h with rfl | h
      · show (a : Int) < ((a + 1 : Nat) : Int); omega
      · have := rowsA_pos s [] (a + 1) x h; omega
    | false =>
      rw [hy, cond_false] at h
      have := rowsA_pos s _ (a + 1) x h; omega
theorem indexByte_at {u : Bytes} (r : Bytes) (hu : u.contains 10 = false) : Lib.indexByte (u ++ 10 :: r) 10 = (u.length : Int) := by
  induction u with
  | nil => simp [Lib.indexByte]
  | cons x u ih =>
    rw [List.contains_cons, Bool.or_eq_false_iff] at hu
    have hx : (x == 10) = false := by
      cases h : (x == 10) with
      | false => rfl
      | true => rw [eq_of_beq h] at hu; simp at hu
    show Lib.indexByte (x :: (u ++ 10 :: r)) 10 = _
    unfold Lib.indexByte
    rw [hx, ih hu.2]
    have : (((u.length : Nat) : Int) == -1) = false := by simp
    simp [this]
theorem items_eq {s : Bytes} (hs : s.length ≤ 1000000) : ∀ (k : Nat) (a : Nat), a ≤ s.length → s.length < k + a → head_items s k (a : Int) = some (rowsA [] a (s.drop a)) := by
  intro k
  induction k with
  | zero => intro a ha h; omega
  | succ k ih =>
    intro a ha h
    unfold head_items
    by_cases hd : a < s.length
    · rw [decide_eq_true (show (a : Int) < (s.length : Int) by omega), cond_true]
      have hsl : slc s (a : Int) (s.length : Int) = some (s.drop a) := by
        unfold slc
        rw [chk_pos (by omega)]
        show some ((s.drop a).take (s.length - a)) = _
        rw [List.take_of_length_le (by simp)]
      rw [hsl, Option.bind_some, IndexByte_eq, Option.bind_some, show u8 10 = (10 : UInt8) from rfl]
      have hxl : (s.drop a).length = s.length - a := by simp
      rcases cutC_parts 10 (s.drop a) with ⟨_, hno⟩ | ⟨u, r, _, hsp, hu⟩
      · have hn : Lib.indexByte (s.drop a) 10 = -1 := by
          have h1 := indexByte_has (s.drop a) 10
          have h2 := indexByte_range (s.drop a) 10
          rw [hno] at h1
          have h1 := of_decide_eq_false h1
          omega
        rw [hn]
        show some [] = some (rowsA [] a (s.drop a))
        have := rowsA_line (s.drop a) [] a [] hno
        rw [List.append_nil] at this
        rw [this, rowsA_nil]
      · have hn : Lib.indexByte (u ++ 10 :: r) 10 = (u.length : Int) := by
          exact indexByte_at r hu
        have hul : a + u.length + 1 + r.length = s.length := by
          have := congrArg List.length hsp
          simp at this
          omega
        have hdr : s.drop (a + u.length + 1) = r := by
          rw [Nat.add_assoc, ← List.drop_drop, hsp]
          simp
        have hus : slc s (a : Int) (((a + u.length : Nat)) : Int) = some u := by
          unfold slc
          rw [chk_pos (by omega)]
          show some ((s.drop a).take (a + u.length - a)) = _
          rw [hsp, Nat.add_sub_cancel_left]
          simp
        rw [hsp, hn, decide_eq_false (show ¬ ((u.length : Nat) : Int) < 0 by omega), cond_false]
        have w1 : IntKind.i64.wrap ((a : Int) + ((u.length : Nat) : Int)) = ((a + u.length : Nat) : Int) := by rw [wrap_i64 (by omega) (by omega)]; omega
        have w2 : IntKind.i64.wrap (((u.length : Nat) : Int) + 1) = ((u.length : Nat) : Int) + 1 := wrap_i64 (by omega) (by omega)
        have w3 : IntKind.i64.wrap ((a : Int) + (((u.length : Nat) : Int) + 1)) = ((a + u.length + 1 : Nat) : Int) := by rw [wrap_i64 (by omega) (by omega)]; omega
        rw [w1, w2, w3, hus, Option.bind_some, trimR_eq (by unfold maxLen; omega), Option.bind_some, ih (a + u.length + 1) (by omega) (by omega), Option.bind_some, hdr, rowsA_line u [] a _ hu, List.nil_append, rowsA_cons]
        rfl
    · rw [decide_eq_false (show ¬ (a : Int) < (s.length : Int) by omega), cond_false, show s.drop a = [] by simp; omega]
      rw [rowsA_nil]
noncomputable def endB (s : Bytes) : Int × Int := head_find s.length (rowsA [] 0 s)
theorem End_eq {s : Bytes} (hs : s.length ≤ 1000000) : head_End s = some (endB s) := by
  unfold head_End head_rows endB
  have := items_eq hs (s.length + 1) 0 (Nat.zero_le _) (by omega)
  rw [show head_items s (s.length + 1) 0 = some (rowsA [] 0 (s.drop 0)) from this]; rfl
theorem find_nil (n : Nat) : head_find n [] = bif decide ((n : Int) > 4000) then (0, 2) else (0, 3) := rfl
theorem find_cons (n : Nat) (line : Bytes) (a : Int) (l : List (Bytes × Int)) : head_find n ((line, a) :: l) = bif decide (a > 4000) then (0, 2) else bif line == [] then (a, 0) else head_find n l := rfl
theorem find_append (n n' : Nat) (hn : n ≤ n') (l' : List (Bytes × Int)) (hl : ∀ x, x ∈ l' → (n : Int) < x.2) (l : List (Bytes × Int)) (h : (head_find n l).2 ≠ 3) : head_find n' (l ++ l') = head_find n l := by
  induction l with
  | nil =>
    rw [find_nil] at h ⊢
    by_cases h4 : (n : Int) > 4000
    · rw [decide_eq_true h4, List.nil_append, cond_true]
      cases l' with
      | nil => rw [find_nil, decide_eq_true (by omega)]; rfl
      | cons x l' =>
        have := hl x (List.mem_cons_self ..)
        obtain ⟨x1, x2⟩ := x
        rw [find_cons, decide_eq_true (by simp only at this; omega)]; rfl
    · rw [decide_eq_false h4, cond_false] at h; exact absurd rfl h
  | cons x l ih =>
    obtain ⟨line, a⟩ := x
    rw [List.cons_append, find_cons, find_cons]
    rw [find_cons] at h
    cases h1 : decide (a > 4000) with
    | true => rw [cond_true, cond_true]
    | false =>
      rw [cond_false, cond_false]
      cases h2 : (line == []) with
      | true => rw [cond_true, cond_true]
      | false =>
        rw [h1, h2, cond_false, cond_false] at h
        rw [cond_false, cond_false]
        exact ih h
theorem endB_append {s : Bytes} (h : (endB s).2 ≠ 3) (t : Bytes) : endB (s ++ t) = endB s := by
  unfold endB at h ⊢
  obtain ⟨acc', h2⟩ := rowsA_append s [] 0 t
  rw [h2]
  refine find_append s.length _ (by simp) _ (fun x hx => ?_) _ h
  have := rowsA_pos t acc' _ x hx
  simpa using this
/-! ### What is skipped -/
def skipP : Bytes → Bytes
  | [] => []
  | x :: s => bif x == 10 then skipP s else bif x == 13 then (match s with | [] => [x] | y :: s' => bif y == 10 then skipP s' else x :: y :: s') else x :: s
theorem skipP_lf (s : Bytes) : skipP (10 :: s) = skipP s := by
  conv => lhs; unfold skipP
  rfl
theorem skipP_crlf (s : Bytes) : skipP (13 :: 10 :: s) = skipP s := by
  conv => lhs; unfold skipP
  rfl
theorem skipP_no {s : Bytes} (h1 : hasPre s [10] = false) (h2 : hasPre s [13, 10] = false) : skipP s = s := by
  rcases s with _ | ⟨x, s⟩
  · rfl
  · unfold skipP
    have hx : (x == 10) = false := by
      cases h : (x == 10) with
      | false => rfl
      | true => rw [eq_of_beq h] at h1; exact absurd h1 (by simp [hasPre])
    rw [hx, cond_false]
    cases h : (x == 13) with
    | false => rfl
    | true =>
      rw [cond_true]
      rcases s with _ | ⟨y, s⟩
      · rfl
      · have hy : (y == 10) = false := by
          cases h' : (y == 10) with
          | false => rfl
          | true => rw [eq_of_beq h, eq_of_beq h'] at h2; exact absurd h2 (by simp [hasPre])
        show (bif y == 10 then skipP s else x :: y :: s) = x :: y :: s
        rw [hy]; rfl
theorem pre_lf {s : Bytes} (h : hasPre s [10] = true) : ∃ t, s = 10 :: t := by
  unfold hasPre at h
  obtain ⟨t, rfl⟩ := List.isPrefixOf_iff_prefix.1 h
  exact ⟨t, rfl⟩
theorem pre_crlf {s : Bytes} (h : hasPre s [13, 10] = true) : ∃ t, s = 13 :: 10 :: t := by
  unfold hasPre at h
  obtain ⟨t, rfl⟩ := List.isPrefixOf_iff_prefix.1 h
  exact ⟨t, rfl⟩
def skB (a : Bool) (b : Bytes) : Bytes := bif a then skipP b else b
theorem skip_eq {w : S_wire_reading} (hb : w.Reader.Buf.length ≤ 50000) : loopO wire_reading_begin_b1 w = some (setBuf w (skB w.Reader.Asks w.Reader.Buf)) := by
  refine loop_opt (fun x : S_wire_reading => x.Reader.Buf.length) (fun x => x.Reader.Buf.length ≤ 50000) (fun x => some (setBuf x (skB x.Reader.Asks x.Reader.Buf))) (fun x hx => ?_) w hb
  unfold wire_reading_begin_b1
  suffices e : ∀ f : Option (S_wire_reading ⊕ S_wire_reading), f = skipB x x.Reader.Buf → ((∃ y, f = some (Sum.inl y) ∧ y.Reader.Buf.length ≤ 50000 ∧ y.Reader.Buf.length < x.Reader.Buf.length ∧ some (setBuf x (skB x.Reader.Asks x.Reader.Buf)) = some (setBuf y (skB y.Reader.Asks y.Reader.Buf))) ∨ ∃ r, f = some (Sum.inr r) ∧ some (setBuf x (skB x.Reader.Asks x.Reader.Buf)) = some r) from e _ rfl
  intro f hf
  subst hf
  unfold skipB
  cases hA : x.Reader.Asks with
  | false =>
    right
    rw [gcall_ff rfl, Option.bind_some, gcall_ff (show (false && !(default : Bool)) = false from rfl), Option.bind_some]
    exact ⟨_, rfl, rfl⟩
  | true =>
    have big : x.Reader.Buf.length ≤ maxLen := by unfold maxLen; omega
    show (∃ y, _ ∧ _ ∧ _ ∧ some (setBuf x (skipP x.Reader.Buf)) = some (setBuf y (skB y.Reader.Asks y.Reader.Buf))) ∨ ∃ r, _ ∧ some (setBuf x (skipP x.Reader.Buf)) = some r
    have hset : ∀ b : Bytes, skB (setBuf x b).Reader.Asks (setBuf x b).Reader.Buf = skipP b := fun b => by show skB x.Reader.Asks b = _; rw [hA]; rfl
    rw [gcall_tt rfl, HasPrefix_eq, Option.bind_some]
    cases h1 : hasPre x.Reader.Buf [10] with
    | true =>
      left
      rw [gcall_ff (show (true && !true) = false from rfl), Option.bind_some]
      have hl := hasPre_len h1
      obtain ⟨s, hs⟩ := pre_lf h1
      have h13 : hasPre x.Reader.Buf [13] = false := by rw [hs]; rfl
      show ∃ y, ((strings_TrimPrefix x.Reader.Buf ([13] : Bytes)).bind fun x5 => (strings_TrimPrefix x5 ([10] : Bytes)).bind fun x6 => some (Sum.inl (setBuf x x6))) = some (Sum.inl y) ∧ _
      rw [TrimP_eq big, h13, cond_false, Option.bind_some, TrimP_eq big, h1, cond_true, Option.bind_some]
      have hd : x.Reader.Buf.drop ([10] : Bytes).length = s := by rw [hs]; rfl
      rw [hd]
      have hsl : s.length + 1 = x.Reader.Buf.length := by rw [hs]; rfl
      refine ⟨_, rfl, by show s.length ≤ _; omega, by show s.length < _; omega, ?_⟩
      rw [hset, hs, skipP_lf]
      rfl
    | false =>
      rw [gcall_tt (show (true && !false) = true from rfl), HasPrefix_eq, Option.bind_some]
      cases h2 : hasPre x.Reader.Buf [13, 10] with
      | false =>
        right
        refine ⟨_, rfl, ?_⟩
        rw [skipP_no h1 h2]
      | true =>
        left
        obtain ⟨s, hs⟩ := pre_crlf h2
        have h13 : hasPre x.Reader.Buf [13] = true := by rw [hs]; rfl
        show ∃ y, ((strings_TrimPrefix x.Reader.Buf ([13] : Bytes)).bind fun x5 => (strings_TrimPrefix x5 ([10] : Bytes)).bind fun x6 => some (Sum.inl (setBuf x x6))) = some (Sum.inl y) ∧ _
        have hd : x.Reader.Buf.drop ([13] : Bytes).length = 10 :: s := by rw [hs]; rfl
        have hsl : s.length + 2 = x.Reader.Buf.length := by rw [hs]; rfl
        rw [TrimP_eq big, h13, cond_true, Option.bind_some, hd, TrimP_eq (by simp; omega), Option.bind_some, show hasPre (10 :: s) [10] = true from by unfold hasPre; simp [List.isPrefixOf], cond_true]
        refine ⟨_, rfl, by show s.length ≤ _; omega, by show s.length < _; omega, ?_⟩
        show _ = some (setBuf (setBuf x s) (skB (setBuf x s).Reader.Asks (setBuf x s).Reader.Buf))
        rw [hset, hs, skipP_crlf]
        rfl
noncomputable def begJ (j1 : S_wire_reading) : Option (Bool × S_wire_reading) := (head_End ((j1.Reader).Buf)).bind fun x7 =>
  bif ((x7.2) == (3 : Int)) then some (false, j1)
  else bif ((x7.2) != (0 : Int)) then (wire_reading_fail j1 (x7.2)).bind fun x8 => some ((x8.1), (x8.2))
  else (slc ((j1.Reader).Buf) 0 (x7.1)).bind fun x9 => (strings_Cut x9 ([10] : Bytes)).bind fun x10 =>
    bif (j1.Reader).Asks then begT start_Parse j1 (x7.1) x10 else begT start_Status j1 (x7.1) x10
theorem begin_J {w : S_wire_reading} (hb : w.Reader.Buf.length ≤ 50000) : wire_reading_begin w = begJ (setBuf w (skB w.Reader.Asks w.Reader.Buf)) := by
  rw [begin_eq, skip_eq hb, Option.bind_some]; rfl
end Go.Proofs.YtkfoahoplndelaaGreatDoor
namespace Go.Proofs.YtkfoahoplndelaaGreatDoor
open Go Go.Pm
set_option linter.unusedVariables false
set_option maxRecDepth 100000
def doneW (A : Bool) (M : Bytes) (b : Bytes) (h : S_Message) (O : List S_Message) : S_wire_reading := S_wire_reading.mk (S_Reader.mk A M b false zeroM (B 0 0) zeroC 0) (O ++ [h])
def inW (A : Bool) (M : Bytes) (b : Bytes) (h : S_Message) (bd : S_Body) (c : S_Chunked) (O : List S_Message) : S_wire_reading := S_wire_reading.mk (S_Reader.mk A M b true h bd c 0) O
theorem more_none {A : Bool} {M b : Bytes} {h : S_Message} {c : S_Chunked} {O : List S_Message} (hO : O.length ≤ 1000000) : wire_reading_more (inW A M b h (B 0 0) c O) = some (true, doneW A M b h O) := by
  have e : wire_reading_more (inW A M b h (B 0 0) c O) = (wire_reading_whole (inW A M b h (B 0 0) c O)).bind fun x1 => some (x1.1, x1.2) := rfl
  rw [e, whole_eq hO, Option.bind_some]; rfl
/-! ### One step -/
noncomputable def stepW (w : S_wire_reading) : Option (Bool × S_wire_reading) := bif w.Reader.In then wire_reading_more w else wire_reading_begin w
def outS (r : Bool × S_wire_reading) : S_wire_reading ⊕ (S_Reader × List S_Message × Int) := bif r.1 then .inl r.2 else .inr (r.2.Reader, r.2.out, 0)
theorem body_step (w : S_wire_reading) : wire_Feed_b1 w = (stepW w).map outS := by
  unfold wire_Feed_b1 stepW
  cases w.Reader.In with
  | true =>
    rw [cond_true, cond_true]
    cases wire_reading_more w with
    | none => rfl
    | some r => obtain ⟨r1, r2⟩ := r; cases r1 <;> rfl
  | false =>
    rw [cond_false, cond_false]
    cases wire_reading_begin w with
    | none => rfl
    | some r => obtain ⟨r1, r2⟩ := r; cases r1 <;> rfl
end Go.Proofs.YtkfoahoplndelaaGreatDoor
namespace Go.Proofs.YtkfoahoplndelaaGreatDoor
open Go Go.Pm
set_option linter.unusedVariables false
set_option maxRecDepth 100000
theorem loop_step {w : S_wire_reading} {r : Bool × S_wire_reading} (h : stepW w = some r) : loopO wire_Feed_b1 w = bif r.1 then loopO wire_Feed_b1 r.2 else some (r.2.Reader, r.2.out, 0) := by
  rw [loopO_eq, body_step, h]
  obtain ⟨r1, r2⟩ := r
  cases r1 <;> rfl
def rplus (r : S_Reader) (t : Bytes) : S_Reader := S_Reader.mk r.Asks r.Method (r.Buf ++ t) r.In r.Head r.Body r.Chunk r.Bad
abbrev FR : Type := S_Reader × List S_Message × Int
def pre (o : List S_Message) (w : S_wire_reading) : S_wire_reading := S_wire_reading.mk w.Reader (o ++ w.out)
theorem wfeed_eq {a : Bool} {m : Bytes} {r : S_Reader} {s : Bytes} (hr : XOk a m r) (h0 : r.Bad = 0) (hs : s.length ≤ 40000) : wire_Feed r s = loopO wire_Feed_b1 (S_wire_reading.mk (rplus r s) []) := by
  have hb := hr.buf
  unfold wire_Feed
  rw [hr.right, Option.bind_some, show (!true) = false from rfl, cond_false, h0, show ((0 : Int) != 0) = false from rfl, cond_false]
  have hc : cat r.Buf s = some (r.Buf ++ s) := by unfold cat; rw [chk_pos (by unfold maxLen; simp; omega)]
  rw [hc, Option.bind_some]
  unfold rplus
  rw [h0]
end Go.Proofs.YtkfoahoplndelaaGreatDoor
namespace Go.Proofs.YtkfoahoplndelaaGreatDoor
open Go Go.Pm
set_option linter.unusedVariables false
set_option maxRecDepth 100000
theorem Same_refl {l : List S_Message} (hl : l.length ≤ 1000000) (h : ∀ m, m ∈ l → FRow m.Fields) : intarsiaref10_Same l l = some true := by
  unfold intarsiaref10_Same
  rw [show ((l.length : Int) != (l.length : Int)) = false by simp, cond_false]
  refine loop_opt (fun s : Int => l.length - s.toNat) (fun s => 0 ≤ s ∧ s ≤ (l.length : Int)) (fun _ => some true) (fun s hs => ?_) (0 : Int) ⟨Int.le_refl _, by omega⟩
  obtain ⟨i, rfl⟩ : ∃ i : Nat, s = (i : Int) := ⟨s.toNat, by omega⟩
  unfold intarsiaref10_Same_b1
  by_cases hlt : i < l.length
  · left
    refine ⟨((i + 1 : Nat) : Int), ?_, ⟨by omega, by omega⟩, by omega, rfl⟩
    have hx := List.getElem?_eq_getElem hlt
    have hf := (h _ (List.getElem_mem hlt)).len
    rw [decide_eq_true (show (i : Int) < (l.length : Int) by omega), cond_true, idx_at hx, Option.bind_some, Option.bind_some, Like10_refl (by unfold maxLen; omega), Option.bind_some]
    rw [show (!true) = false from rfl, cond_false, wrap_i64 (by omega) (by omega)]
    rfl
  · right
    rw [decide_eq_false (show ¬ (i : Int) < (l.length : Int) by omega), cond_false]
    exact ⟨_, rfl, rfl⟩
def newR (a : Bool) (m : Bytes) : S_Reader := S_Reader.mk a m [] false zeroM (B 0 0) zeroC 0
theorem newR_ok (a : Bool) (m : Bytes) : XOk a m (newR a m) := .out [] (Nat.zero_le _)
end Go.Proofs.YtkfoahoplndelaaGreatDoor
namespace Go.Proofs.YtkfoahoplndelaaGreatDoor
open Go Go.Pm
set_option linter.unusedVariables false
set_option maxRecDepth 100000
theorem TrimS_hit {s : Bytes} (c : UInt8) (hs : s.length + 1 ≤ maxLen) : strings_TrimSuffix (s ++ [c]) [c] = some s := by
  have ew : IntKind.i64.wrap (((s ++ [c]).length : Int) - ((([c] : Bytes).length : Nat) : Int)) = (s.length : Int) := by
    rw [wrap_i64 (by simp <;> omega) (by unfold maxLen at hs; simp <;> omega)]
    simp
  have hge : decide (((s ++ [c]).length : Int) ≥ ((([c] : Bytes).length : Nat) : Int)) = true := decide_eq_true (by simp; omega)
  have h1 : stringslite_HasSuffix (s ++ [c]) [c] = some true := by
    unfold stringslite_HasSuffix
    have e : gslc (decide (((s ++ [c]).length : Int) ≥ ((([c] : Bytes).length : Nat) : Int))) (s ++ [c]) (IntKind.i64.wrap (((s ++ [c]).length : Int) - ((([c] : Bytes).length : Nat) : Int))) ((s ++ [c]).length : Int) = some [c] := by
      unfold gslc
      rw [ew, chk_pos (fun _ => ⟨by omega, by simp; omega, Int.le_refl _⟩)]
      simp
    rw [e, Option.bind_some, hge]
    simp
  have h2 : stringslite_TrimSuffix (s ++ [c]) [c] = some s := by
    unfold stringslite_TrimSuffix
    rw [h1, Option.bind_some, cond_true, ew]
    have e : slc (s ++ [c]) 0 (s.length : Int) = some s := by
      unfold slc
      rw [chk_pos (by simp; omega)]
      simp
    rw [e]; rfl
  unfold strings_TrimSuffix
  rw [h2]; rfl
theorem trimR_hit {s : Bytes} (hs : s.length + 1 ≤ maxLen) : trimR (s ++ [13]) = s := by
  unfold trimR
  rw [TrimS_hit 13 hs]; rfl
theorem begJ_ok {A : Bool} {M b l r l' r1 r2 : Bytes} {O : List S_Message} {e : Nat} {f : Bool} {s : S_Start} {fs : List S_Field} {bd : S_Body}
    (hE : head_End b = some ((e : Int), 0)) (he : e ≤ b.length) (hC : strings_Cut (b.take e) [10] = some (l, r, f)) (h1 : strings_TrimSuffix l [13] = some l')
    (hr : (bif A then start_Parse l' else start_Status l') = some (s, 0)) (h2 : strings_TrimSuffix r [10] = some r1) (h3 : strings_TrimSuffix r1 [13] = some r2)
    (h4 : head_Parse r2 = some (fs, 0)) (h5 : bodyB A M (S_Message.mk s fs []) = (bd, 0)) (hs : SSmall s) (hf : FRow fs)
    (hcode : (bif (s.Code != (0 : Int)) then (decide (s.Code < (200 : Int))) else false) = false) :
    begJ (S_wire_reading.mk (S_Reader.mk A M b false zeroM (B 0 0) zeroC 0) O) = some (true, inW A M (b.drop e) (S_Message.mk s fs []) bd zeroC O) := by
  have key : ∀ rd : Bytes → Option (S_Start × Int), rd l' = some (s, 0) → begT rd (S_wire_reading.mk (S_Reader.mk A M b false zeroM (B 0 0) zeroC 0) O) (e : Int) (l, r, f) = some (true, inW A M (b.drop e) (S_Message.mk s fs []) bd zeroC O) := fun rd hrd => by
    unfold begT
    dsimp only
    rw [h1, Option.bind_some, hrd, Option.bind_some, show (((s, (0 : Int)) : S_Start × Int).2 != (0 : Int)) = false from rfl, cond_false, h2, Option.bind_some, h3, Option.bind_some, h4, Option.bind_some, show (((fs, (0 : Int)) : List S_Field × Int).2 != (0 : Int)) = false from rfl, cond_false]
    have hb : wire_body (S_Reader.mk A M b false (S_Message.mk s fs []) (B 0 0) zeroC 0) = some (bd, 0) := by rw [wbody_eq hs hf]; exact congrArg some h5
    show ((wire_body (S_Reader.mk A M b false (S_Message.mk s fs []) (B 0 0) zeroC 0)).bind _) = _
    rw [hb, Option.bind_some, show (((bd, (0 : Int)) : S_Body × Int).2 != (0 : Int)) = false from rfl, cond_false]
    have s1 : slc b (e : Int) (b.length : Int) = some (b.drop e) := by
      unfold slc
      rw [chk_pos (by omega)]
      show some ((b.drop e).take (b.length - e)) = _
      rw [List.take_of_length_le (by simp)]
    rw [s1, Option.bind_some, hcode]
    rfl
  unfold begJ
  dsimp only
  rw [hE, Option.bind_some, show (((e : Int), (0 : Int)).2 == (3 : Int)) = false from rfl, cond_false, show (((e : Int), (0 : Int)).2 != (0 : Int)) = false from rfl, cond_false]
  have s0 : slc b 0 (e : Int) = some (b.take e) := by unfold slc; rw [chk_pos (by omega)]; simp
  rw [s0, Option.bind_some, hC, Option.bind_some]
  cases A with
  | true => exact key start_Parse hr
  | false => exact key start_Status hr
theorem cut_at {u r : Bytes} (c : UInt8) (hu : u.contains c = false) : cutC c (u ++ c :: r) = (u, r, true) := by
  induction u with
  | nil => unfold cutC; simp
  | cons x u ih =>
    rw [List.contains_cons, Bool.or_eq_false_iff] at hu
    have hx : (x == c) = false := by
      cases h : (x == c) with
      | false => rfl
      | true => rw [eq_of_beq h] at hu; simp at hu
    show cutC c (x :: (u ++ c :: r)) = _
    unfold cutC
    rw [hx, ih hu.2]; rfl
def okL : Bytes := [72, 84, 84, 80, 47, 49, 46, 48, 32, 50, 48, 48, 32, 79, 75]
theorem stepW_in (A : Bool) (M b : Bytes) (h : S_Message) (bd : S_Body) (c : S_Chunked) (O : List S_Message) : stepW (inW A M b h bd c O) = wire_reading_more (inW A M b h bd c O) := rfl
/-! ### A head that tells its length -/
def lenH (d : Bytes) : Bytes := okL ++ [13] ++ 10 :: (nCL ++ 58 :: 32 :: d ++ [13] ++ 10 :: ([13] ++ 10 :: []))
theorem contains_append (s t : Bytes) (c : UInt8) : (s ++ t).contains c = (s.contains c || t.contains c) := by
  induction s with
  | nil => simp
  | cons x s ih => rw [List.cons_append, List.contains_cons, List.contains_cons, ih, Bool.or_assoc]
end Go.Proofs.YtkfoahoplndelaaGreatDoor
namespace Go.Proofs.YtkfoahoplndelaaGreatDoor
open Go Go.Pm
set_option linter.unusedVariables false
set_option maxRecDepth 100000
theorem all_no {p : UInt8 → Bool} {c : UInt8} (hp : p c = false) : ∀ {s : Bytes}, s.all p = true → s.contains c = false
  | [], _ => rfl
  | x :: s, h => by
    rw [List.all_cons, Bool.and_eq_true] at h
    rw [List.contains_cons, all_no hp h.2]
    cases hx : (c == x) with
    | false => rfl
    | true => rw [eq_of_beq hx, h.1] at hp; cases hp
theorem any_no {p : UInt8 → Bool} {c : UInt8} (hp : p c = true) : ∀ {s : Bytes}, s.any p = false → s.contains c = false
  | [], _ => rfl
  | x :: s, h => by
    rw [List.any_cons, Bool.or_eq_false_iff] at h
    rw [List.contains_cons, any_no hp h.2]
    cases hx : (c == x) with
    | false => rfl
    | true => rw [eq_of_beq hx, h.1] at hp; cases hp
theorem trim_sp {v : Bytes} (h : trim v = v) : trim (32 :: v) = v := by
  rcases v.eq_nil_or_concat with rfl | ⟨d, x, hv⟩
  · rfl
  · rw [List.concat_eq_append] at hv
    have hb : blank x = false := by
      cases hb : blank x with
      | false => rfl
      | true =>
        exfalso
        have h1 : (trim v).length ≤ d.length := by
          unfold trim
          rw [hv, dropR_snoc, hb, cond_true]
          exact Nat.le_trans (dropL_le ..) (dropR_le ..)
        rw [h, hv] at h1
        simp at h1
        omega
    have h2 : dropR blank v = v := by rw [hv, dropR_snoc, hb]; rfl
    have h3 : dropL blank v = v := by
      unfold trim at h
      rw [h2] at h
      exact h
    unfold trim
    have e : (32 : UInt8) :: v = (32 :: d) ++ [x] := by rw [hv]; rfl
    rw [e, dropR_snoc, hb, cond_false, ← e]
    have : dropL blank (32 :: v) = dropL blank v := rfl
    rw [this, h3]
def lineOf (f : S_Field) : Bytes := f.Name ++ 58 :: 32 :: f.Value
def textOf : List S_Field → Bytes
  | [] => []
  | f :: l => lineOf f ++ [13] ++ 10 :: textOf l
theorem textOf_cons (f : S_Field) (l : List S_Field) : textOf (f :: l) = lineOf f ++ [13] ++ 10 :: textOf l := rfl
def headOf (l : Bytes) (fs : List S_Field) : Bytes := l ++ [13] ++ 10 :: (textOf fs ++ ([13] ++ 10 :: []))
structure MayF (f : S_Field) : Prop where
  name : tokenB f.Name = true
  tr : trim f.Value = f.Value
  len : f.Value.length ≤ 1000
  ctl : f.Value.any ctlB = false
theorem mayF {f : S_Field} (h : mayB f = true) : MayF f := by
  unfold mayB at h
  simp only [Bool.and_eq_true, Bool.not_eq_true', decide_eq_true_eq] at h
  exact ⟨h.1, eq_of_beq h.2.1, h.2.2.1, h.2.2.2⟩
theorem tok_all {s : Bytes} (h : tokenB s = true) : s.all wordB = true := by
  unfold tokenB at h
  rw [Bool.and_eq_true] at h
  exact h.2
theorem lineOf_no {f : S_Field} (h : MayF f) : (lineOf f ++ [13]).contains 10 = false := by
  unfold lineOf
  have e : f.Name ++ 58 :: 32 :: f.Value ++ [13] = f.Name ++ ([58, 32] ++ (f.Value ++ [13])) := by simp
  rw [e, contains_append, contains_append, contains_append, all_no (p := wordB) (c := 10) (by kernel_rfl) (tok_all h.name), any_no (p := ctlB) (c := 10) (by kernel_rfl) h.ctl]
  rfl
def rowsT (a : Nat) : List S_Field → List (Bytes × Int)
  | [] => []
  | f :: l => (lineOf f, ((a + (lineOf f).length + 2 : Nat) : Int)) :: rowsT (a + (lineOf f).length + 2) l
theorem rowsT_eq (r : Bytes) : ∀ (fs : List S_Field) (a : Nat), (∀ f, f ∈ fs → MayF f ∧ (lineOf f).length ≤ 1000000) → rowsA [] a (textOf fs ++ r) = rowsT a fs ++ rowsA [] (a + (textOf fs).length) r
  | [], a, _ => rfl
  | f :: l, a, h => by
    obtain ⟨h1, h2⟩ := h f (List.mem_cons_self ..)
    have e : textOf (f :: l) ++ r = (lineOf f ++ [13]) ++ 10 :: (textOf l ++ r) := by rw [textOf_cons]; simp
    have ht : trimR (lineOf f ++ [13]) = lineOf f := trimR_hit (by unfold maxLen; omega)
    have hl : a + (lineOf f ++ [13]).length + 1 = a + (lineOf f).length + 2 := by simp; omega
    rw [e, rowsA_line _ [] _ _ (lineOf_no h1), rowsA_cons, show ((10 : UInt8) == 10) = true from rfl, cond_true, List.nil_append, ht, hl, rowsT_eq r l _ (fun g hg => h g (List.mem_cons_of_mem _ hg))]
    have hl2 : a + (lineOf f).length + 2 + (textOf l).length = a + (textOf (f :: l)).length := by rw [textOf_cons]; simp; omega
    rw [hl2]
    rfl
theorem lineOf_ne {f : S_Field} : (lineOf f == ([] : Bytes)) = false := by
  unfold lineOf
  cases h : (f.Name ++ 58 :: 32 :: f.Value == ([] : Bytes)) with
  | false => rfl
  | true => have := eq_of_beq h; simp at this
theorem find_rowsT (n : Nat) (r : List (Bytes × Int)) : ∀ (fs : List S_Field) (a : Nat), a + (textOf fs).length ≤ 4000 → head_find n (rowsT a fs ++ r) = head_find n r
  | [], a, _ => rfl
  | f :: l, a, h => by
    have hl2 : a + (lineOf f).length + 2 + (textOf l).length = a + (textOf (f :: l)).length := by rw [textOf_cons]; simp; omega
    show head_find n ((lineOf f, ((a + (lineOf f).length + 2 : Nat) : Int)) :: (rowsT (a + (lineOf f).length + 2) l ++ r)) = _
    rw [find_cons, decide_eq_false (by omega), cond_false, lineOf_ne, cond_false]
    exact find_rowsT n r l _ (by omega)
theorem headOf_end {l : Bytes} {fs : List S_Field} (hl : l.contains 10 = false) (hne : l ≠ []) (hf : ∀ f, f ∈ fs → MayF f ∧ (lineOf f).length ≤ 1000000) (hlen : (headOf l fs).length ≤ 4000) : endB (headOf l fs) = ((((headOf l fs).length : Nat) : Int), 0) := by
  have hlen2 : (headOf l fs).length = l.length + 2 + (textOf fs).length + 2 := by unfold headOf; simp; omega
  have n1 : (l ++ [13]).contains 10 = false := by rw [contains_append, hl]; rfl
  have t1 : trimR (l ++ [13]) = l := trimR_hit (by unfold maxLen; omega)
  have t3 : trimR [13] = [] := by unfold trimR; rw [show strings_TrimSuffix [13] [13] = some [] by kernel_rfl]; rfl
  have hrows : rowsA [] 0 (headOf l fs) = (l, ((l.length + 2 : Nat) : Int)) :: (rowsT (l.length + 2) fs ++ [([], (((headOf l fs).length : Nat) : Int))]) := by
    unfold headOf
    have e1 : 0 + (l ++ [13]).length + 1 = l.length + 2 := by simp
    rw [rowsA_line (l ++ [13]) [] 0 _ n1, rowsA_cons, show ((10 : UInt8) == 10) = true from rfl, cond_true, List.nil_append, t1, e1, rowsT_eq _ fs _ hf, rowsA_line [13] [] _ _ (by rfl), rowsA_cons, show ((10 : UInt8) == 10) = true from rfl, cond_true, rowsA_nil, List.nil_append, t3]
    congr 1
    congr 1
    congr 1
    congr 1
    congr 1
    simp
    omega
  have hnb : (l == ([] : Bytes)) = false := by
    cases h : (l == ([] : Bytes)) with
    | false => rfl
    | true => exact absurd (eq_of_beq h) hne
  unfold endB
  rw [hrows, find_cons, decide_eq_false (by omega), cond_false, hnb, cond_false, find_rowsT _ _ fs _ (by omega), find_cons, decide_eq_false (by omega), cond_false]
  rfl
theorem rightB_all {l : List S_Field} (h : rightB l = true) : ∀ f, f ∈ l → mayB f = true := by
  unfold rightB at h
  rw [Bool.and_eq_true, List.all_eq_true] at h
  exact h.2
theorem rightB_len {l : List S_Field} (h : rightB l = true) : l.length ≤ 40 := by
  unfold rightB at h
  rw [Bool.and_eq_true] at h
  exact of_decide_eq_true h.1
theorem rightB_app {l m : List S_Field} (h : rightB (l ++ m) = true) : rightB l = true := by
  unfold rightB at h ⊢
  simp only [List.all_append, Bool.and_eq_true, decide_eq_true_eq, List.length_append] at h ⊢
  exact ⟨by omega, h.2.1⟩
theorem fold_text : ∀ (fs out : List S_Field) (a : Nat), rightB (out ++ fs) = true → (∀ f, f ∈ out ++ fs → f.Name.length ≤ 5000) → head_fold (rowsT a fs) out = some (out ++ fs, 0)
  | [], out, a, _, _ => by rw [List.append_nil]; rfl
  | f :: l, out, a, h, hn => by
    have hmem : f ∈ out ++ f :: l := by simp
    have hmay := rightB_all h f hmem
    have hm := mayF hmay
    have hfn := hn f hmem
    have hlen := rightB_len h
    have hcut : cutC 58 (f.Name ++ 58 :: (32 :: f.Value)) = (f.Name, 32 :: f.Value, true) := cut_at 58 (all_no (p := wordB) (by kernel_rfl) (tok_all hm.name))
    have hv := hm.len
    show head_fold ((lineOf f, _) :: rowsT _ l) out = _
    unfold head_fold
    unfold lineOf
    rw [Cut_one 58 (by simp; unfold maxLen; omega), hcut, Option.bind_some, Trim_eq (by simp; unfold maxLen; omega), Option.bind_some]
    show ((table_Add out f.Name (trim (32 :: f.Value))).bind _) = _
    rw [trim_sp hm.tr]
    have hrow : FRow out := ⟨by simp at hlen; omega, fun g hg => by
      have hg2 : g ∈ out ++ f :: l := List.mem_append_left _ hg
      have := hn g hg2
      have := (mayF (rightB_all h g hg2)).len
      omega⟩
    have hadd : addB out (S_Field.mk f.Name f.Value) = (out ++ [f], 0) := by
      unfold addB
      have hro := rightB_app h
      have hol : (out.length == 40) = false := by simp at hlen; simp; omega
      rw [hro, show mayB (S_Field.mk f.Name f.Value) = true from hmay, hol]; rfl
    rw [Add_eq hrow ⟨by show f.Name.length ≤ _; unfold maxLen; omega, by show f.Value.length ≤ _; unfold maxLen; omega⟩, Option.bind_some, hadd]
    show head_fold (rowsT _ l) (out ++ [f]) = _
    have e : out ++ [f] ++ l = out ++ f :: l := by simp
    rw [fold_text l (out ++ [f]) _ (by rw [e]; exact h) (by rw [e]; exact hn), e]
theorem parse_text {fs : List S_Field} (h : rightB fs = true) (hl : (textOf fs).length ≤ 4000) : head_Parse (textOf fs) = some (fs, 0) := by
  have hnames : ∀ (gs : List S_Field), (∀ f, f ∈ gs → f.Name.length ≤ (textOf gs).length) := by
    intro gs
    induction gs with
    | nil => intro f hf; cases hf
    | cons g gs ih =>
      intro f hf
      have e : (textOf (g :: gs)).length = g.Name.length + g.Value.length + 4 + (textOf gs).length := by rw [textOf_cons]; unfold lineOf; simp; omega
      rcases List.mem_cons.1 hf with rfl | hf
      · omega
      · have := ih f hf; omega
  have hlines : ∀ f, f ∈ fs → MayF f ∧ (lineOf f).length ≤ 1000000 := fun f hf => by
    have hm := mayF (rightB_all h f hf)
    have := hnames fs f hf
    have := hm.len
    exact ⟨hm, by unfold lineOf; simp; omega⟩
  have hrows : head_rows (textOf fs) = some (rowsT 0 fs) := by
    unfold head_rows
    have := items_eq (s := textOf fs) (by omega) ((textOf fs).length + 1) 0 (Nat.zero_le _) (by omega)
    have e := rowsT_eq [] fs 0 hlines
    rw [List.append_nil, rowsA_nil, List.append_nil] at e
    rw [show head_items (textOf fs) ((textOf fs).length + 1) 0 = some (rowsA [] 0 ((textOf fs).drop 0)) from this, List.drop_zero, e]
  have hfold := fold_text fs [] 0 (by simpa using h) (fun f hf => by have := hnames fs f (by simpa using hf); omega)
  rw [List.nil_append] at hfold
  unfold head_Parse
  rw [decide_eq_false (by omega), cond_false]
  rcases fs with _ | ⟨f, l⟩
  · rfl
  · have hlast : ∃ u, textOf (f :: l) = u ++ [10] := by
      clear hrows hfold hlines hnames h hl
      induction l generalizing f with
      | nil => exact ⟨lineOf f ++ [13], by rw [textOf_cons]; simp [textOf]⟩
      | cons g l ih =>
        obtain ⟨u, hu⟩ := ih g
        exact ⟨lineOf f ++ [13] ++ 10 :: u, by rw [textOf_cons, hu]; simp⟩
    obtain ⟨u, hu⟩ := hlast
    have hne : (textOf (f :: l) == ([] : Bytes)) = false := by
      cases he : (textOf (f :: l) == ([] : Bytes)) with
      | false => rfl
      | true => have := eq_of_beq he; rw [hu] at this; simp at this
    rw [hne]
    have hg : gidx true (textOf (f :: l)) (IntKind.i64.wrap (((textOf (f :: l)).length : Int) - 1)) = some 10 := by
      rw [gidx_tt rfl]
      have hul : (textOf (f :: l)).length = u.length + 1 := by rw [hu]; simp
      have e : IntKind.i64.wrap (((textOf (f :: l)).length : Int) - 1) = ((u.length : Nat) : Int) := by rw [wrap_i64 (by omega) (by omega)]; omega
      rw [e]
      exact idx_at (by rw [hu]; simp)
    show ((gidx true (textOf (f :: l)) (IntKind.i64.wrap (((textOf (f :: l)).length : Int) - 1))).bind _) = _
    rw [hg, Option.bind_some]
    show (bif (((10 : UInt8).toNat : Int) != 10) then _ else _) = _
    rw [show ((((10 : UInt8).toNat : Nat) : Int) != 10) = false from rfl, cond_false, hrows, Option.bind_some]
    exact hfold
theorem step_head {A : Bool} {M l x : Bytes} {s : S_Start} {fs : List S_Field} {bd : S_Body} {O : List S_Message} (hl : l.contains 10 = false) (hl2 : l.head? ≠ some 13) (hne : l ≠ []) (hr : rightB fs = true) (hlen : (headOf l fs).length ≤ 4000) (hx : x.length ≤ 40000)
    (hrd : (bif A then start_Parse l else start_Status l) = some (s, 0)) (hb : bodyB A M (S_Message.mk s fs []) = (bd, 0)) (hs : SSmall s) (hcode : (bif (s.Code != (0 : Int)) then (decide (s.Code < (200 : Int))) else false) = false) :
    stepW (S_wire_reading.mk (S_Reader.mk A M (headOf l fs ++ x) false zeroM (B 0 0) zeroC 0) O) = some (true, inW A M x (S_Message.mk s fs []) bd zeroC O) := by
  have hlen2 : (headOf l fs).length = l.length + 2 + (textOf fs).length + 2 := by unfold headOf; simp; omega
  have hlx : (headOf l fs ++ x).length ≤ 44000 := by rw [List.length_append]; omega
  have hnames : ∀ (gs : List S_Field), (∀ f, f ∈ gs → (lineOf f).length ≤ (textOf gs).length) := by
    intro gs
    induction gs with
    | nil => intro f hf; cases hf
    | cons g gs ih =>
      intro f hf
      have e : (textOf (g :: gs)).length = (lineOf g).length + 2 + (textOf gs).length := by rw [textOf_cons]; simp; omega
      rcases List.mem_cons.1 hf with rfl | hf
      · omega
      · have := ih f hf; omega
  have hlines : ∀ f, f ∈ fs → MayF f ∧ (lineOf f).length ≤ 1000000 := fun f hf => ⟨mayF (rightB_all hr f hf), by have := hnames fs f hf; omega⟩
  have hE := headOf_end hl hne hlines hlen
  have hE2 : head_End (headOf l fs ++ x) = some ((((headOf l fs).length : Nat) : Int), 0) := by
    rw [End_eq (by omega), endB_append (by rw [hE]; simp), hE]
  have hrow : FRow fs := ⟨by have := rightB_len hr; omega, fun f hf => by
    have h1 := hnames fs f hf
    have e : (lineOf f).length = f.Name.length + f.Value.length + 2 := by unfold lineOf; simp; omega
    omega⟩
  have hskip : skB A (headOf l fs ++ x) = headOf l fs ++ x := by
    cases A with
    | false => rfl
    | true =>
      obtain ⟨c, l', rfl⟩ : ∃ c l', l = c :: l' := by
        rcases l with _ | ⟨c, l'⟩
        · exact absurd rfl hne
        · exact ⟨c, l', rfl⟩
      have hc10 : ((10 : UInt8) == c) = false := by
        rw [List.contains_cons, Bool.or_eq_false_iff] at hl
        exact hl.1
      have hc13 : ((13 : UInt8) == c) = false := by
        cases h : ((13 : UInt8) == c) with
        | false => rfl
        | true => exact absurd (by rw [← eq_of_beq h]; rfl) hl2
      refine skipP_no ?_ ?_
      · show hasPre (c :: _) [10] = false
        unfold hasPre
        simp only [List.isPrefixOf, Bool.and_true]
        exact hc10
      · show hasPre (c :: _) [13, 10] = false
        unfold hasPre
        simp only [List.isPrefixOf]
        rw [hc13]; rfl
  have e0 : stepW (S_wire_reading.mk (S_Reader.mk A M (headOf l fs ++ x) false zeroM (B 0 0) zeroC 0) O) = wire_reading_begin (S_wire_reading.mk (S_Reader.mk A M (headOf l fs ++ x) false zeroM (B 0 0) zeroC 0) O) := rfl
  rw [e0, begin_J (by show (headOf l fs ++ x).length ≤ _; omega)]
  show begJ (S_wire_reading.mk (S_Reader.mk A M (skB A (headOf l fs ++ x)) false zeroM (B 0 0) zeroC 0) O) = _
  rw [hskip]
  have ht : (headOf l fs ++ x).take (headOf l fs).length = headOf l fs := by simp
  have hd : (headOf l fs ++ x).drop (headOf l fs).length = x := by simp
  have hC : strings_Cut (headOf l fs) [10] = some (l ++ [13], textOf fs ++ [13] ++ [10], true) := by
    rw [Cut_one 10 (by unfold maxLen; omega)]
    unfold headOf
    rw [cut_at 10 (u := l ++ [13]) (by rw [contains_append, hl]; rfl)]
    simp
  rw [begJ_ok (A := A) (s := s) hE2 (by rw [List.length_append]; omega) (by rw [ht]; exact hC) (TrimS_hit 13 (by unfold maxLen; omega)) hrd (TrimS_hit 10 (by rw [List.length_append]; unfold maxLen; simp; omega)) (TrimS_hit 13 (by unfold maxLen; omega)) (parse_text hr (by omega)) hb hs hrow hcode, hd]
end Go.Proofs.YtkfoahoplndelaaGreatDoor
namespace Go.Proofs.YtkfoahoplndelaaGreatDoor
open Go Go.Pm
set_option linter.unusedVariables false
set_option maxRecDepth 100000
def outW (A : Bool) (M b : Bytes) (O : List S_Message) : S_wire_reading := S_wire_reading.mk (S_Reader.mk A M b false zeroM (B 0 0) zeroC 0) O
structure HeadOk (A : Bool) (M l : Bytes) (s : S_Start) (fs : List S_Field) (bd : S_Body) : Prop where
  no : l.contains 10 = false
  cr : l.head? ≠ some 13
  ne : l ≠ []
  right : rightB fs = true
  len : (headOf l fs).length ≤ 4000
  rd : (bif A then start_Parse l else start_Status l) = some (s, 0)
  body : bodyB A M (S_Message.mk s fs []) = (bd, 0)
  small : SSmall s
  code : (bif (s.Code != (0 : Int)) then (decide (s.Code < (200 : Int))) else false) = false
theorem feed_headOf {A : Bool} {M l x : Bytes} {s : S_Start} {fs : List S_Field} {bd : S_Body} {O : List S_Message} (h : HeadOk A M l s fs bd) (hx : x.length ≤ 40000) :
    loopO wire_Feed_b1 (outW A M (headOf l fs ++ x) O) = loopO wire_Feed_b1 (inW A M x (S_Message.mk s fs []) bd zeroC O) := by
  have hs := step_head (O := O) h.no h.cr h.ne h.right h.len hx h.rd h.body h.small h.code
  have := loop_step hs
  rw [cond_true] at this
  exact this
end Go.Proofs.YtkfoahoplndelaaGreatDoor
