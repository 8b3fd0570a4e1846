/-
  Plain laws of the wire: WireWrites, WireBack.
-/
import Derived.Test.YtpionnihpibglaaGreatDoorPw0
import Derived.KernelRfl
import Derived.Lib.SplitLaws
import Derived.Laws.Bits64b
import Derived.Lib.Index
namespace Go.Proofs.YtpionnihpibglaaGreatDoor
open Go Go.Pm
set_option linter.unusedSimpArgs false
set_option linter.unusedVariables false
set_option maxRecDepth 100000
/-! ### It is told, and so -/
def Tot {α : Type} (o : Option α) (P : α → Prop) : Prop := ∃ x, o = some x ∧ P x
section
variable {α β : Type} {P : α → Prop} {Q : β → Prop}
theorem Tot.now {x : α} (h : P x) : Tot (some x) P := ⟨x, rfl, h⟩
theorem Tot.eq {o : Option α} {x : α} (h : o = some x) (hx : P x) : Tot o P := ⟨x, h, hx⟩
theorem Tot.bind {o : Option α} {f : α → Option β} (h : Tot o P) (k : ∀ x, P x → Tot (f x) Q) : Tot (o.bind f) Q := by
  obtain ⟨x, rfl, hx⟩ := h; exact k x hx
theorem Tot.mono {o : Option α} {P' : α → Prop} (h : Tot o P) (k : ∀ x, P x → P' x) : Tot o P' := by
  obtain ⟨x, h1, h2⟩ := h; exact ⟨x, h1, k x h2⟩
theorem Tot.guard [Inhabited α] {g : Bool} {o : Option α} (h : g = true → Tot o P) : Tot (gcall g o) (fun x => g = true → P x) := by
  cases g with
  | true => obtain ⟨x, h1, h2⟩ := h rfl; exact ⟨x, h1, fun _ => h2⟩
  | false => exact ⟨default, rfl, fun h => by cases h⟩
theorem Tot.chk {p : Prop} [Decidable p] {o : Option α} (hp : p) (h : Tot o P) : Tot (Pm.chk p o) P := by rw [chk_pos hp]; exact h
end
theorem sIndex_one (s : Bytes) (c : UInt8) : stringslite_Index s [c] = some (Lib.indexByte s c) := by
  unfold stringslite_Index
  have e1 : (((([c] : Bytes).length : Nat) : Int) == (0 : Int)) = false := rfl
  have e2 : (((([c] : Bytes).length : Nat) : Int) == (1 : Int)) = true := rfl
  rw [e1, e2, cond_false, cond_true]
  cases h : (([c] : Bytes) == s) with
  | true => rw [← eq_of_beq h]; simp [Lib.indexByte]
  | false =>
    rw [cond_false]
    show ((idx [c] ((0 : Nat) : Int)).bind _) = _
    rw [idx_at (x := c) rfl, Option.bind_some]
    show some (Lib.indexByte s (u8 (c.toNat : Int))) = _
    rw [u8_nat]
def cutC (c : UInt8) : Bytes → Bytes × Bytes × Bool
  | [] => ([], [], false)
  | x :: s => bif x == c then ([], s, true) else (x :: (cutC c s).1, (cutC c s).2)
theorem cutC_index (c : UInt8) : ∀ (s : Bytes), (Lib.indexByte s c = -1 ∧ cutC c s = (s, [], false)) ∨ ∃ i : Nat, Lib.indexByte s c = (i : Int) ∧ i < s.length ∧ cutC c s = (s.take i, s.drop (i + 1), true)
  | [] => .inl ⟨rfl, rfl⟩
  | x :: s => by
    unfold Lib.indexByte cutC
    cases hx : (x == c) with
    | true => exact .inr ⟨0, rfl, by simp, by simp⟩
    | false =>
      rcases cutC_index c s with ⟨h1, h2⟩ | ⟨i, h1, h2, h3⟩
      · left; rw [h1, h2]; exact ⟨rfl, rfl⟩
      · right
        refine ⟨i + 1, ?_, by simpa using h2, by rw [h3]; simp⟩
        rw [h1]
        have : ((i : Int) == -1) = false := by simp
        simp [this]
theorem Cut_one {s : Bytes} (c : UInt8) (hs : s.length ≤ maxLen) : strings_Cut s [c] = some (cutC c s) := by
  unfold strings_Cut stringslite_Cut
  rw [sIndex_one, Option.bind_some]
  rcases cutC_index c s with ⟨h1, h2⟩ | ⟨i, h1, h2, h3⟩
  · rw [h1, h2]; rfl
  · rw [h1, h3]
    have e : decide ((i : Int) ≥ (0 : Int)) = true := by simp
    have e2 : IntKind.i64.wrap ((i : Int) + (((([c] : Bytes).length : Nat) : Int))) = ((i + 1 : Nat) : Int) := by
      rw [wrap_i64 (by simp; omega) (by unfold maxLen at hs; simp; omega)]; simp
    rw [e, cond_true, e2]
    have h4 : slc s 0 (i : Int) = some (s.take i) := by unfold slc; rw [chk_pos (by omega)]; simp
    have h5 : slc s ((i + 1 : Nat) : Int) (s.length : Int) = some (s.drop (i + 1)) := by
      unfold slc
      rw [chk_pos (by omega)]
      show some ((s.drop (i + 1)).take (s.length - (i + 1))) = _
      rw [List.take_of_length_le (by rw [List.length_drop]; exact Nat.le_refl _)]
    rw [h4, Option.bind_some, h5]; rfl
theorem sIdx_one (s : Bytes) (c : UInt8) : strings_Index s [c] = some (Lib.indexByte s c) := by
  first
  | rfl
  | (unfold strings_Index; rw [sIndex_one]; rfl)
theorem Contains_one (s : Bytes) (c : UInt8) : strings_Contains s [c] = some (decide (Lib.indexByte s c ≥ (0 : Int))) := by
  unfold strings_Contains
  rw [sIdx_one]; rfl
end Go.Proofs.YtpionnihpibglaaGreatDoor
namespace Go.Proofs.YtpionnihpibglaaGreatDoor
open Go Go.Pm
set_option linter.unusedSimpArgs false
set_option linter.unusedVariables false
set_option maxRecDepth 100000
/-! ### How long a body is -/
def bodyB (asks : Bool) (m : Bytes) (h : S_Message) : S_Body × Int := bif asks then reqB h.Start h.Fields else ansB h.Start h.Fields m
theorem wbody_eq {r : S_Reader} (hs : SSmall r.Head.Start) (hf : FRow r.Head.Fields) : wire_body r = some (bodyB r.Asks r.Method r.Head) := by
  unfold wire_body bodyB
  rw [Request_eq hs hf, Answer_eq hs hf]
  cases r.Asks <;> rfl
def KindOk (b : S_Body) : Prop := b = B 0 0 ∨ (∃ z : Int, 0 ≤ z ∧ z ≤ 20000 ∧ b = B 1 z) ∨ b = B 2 0 ∨ b = B 3 0
theorem sayFold {n : S_Body} (hn : n = B 0 0 ∨ n = B 3 0) : ∀ (l : List Bytes) (c : Option Int), (foldE sayStep (sayFin n) l c).2 = 0 → KindOk (foldE sayStep (sayFin n) l c).1
  | [], none, _ => by
    unfold foldE sayFin
    rcases hn with rfl | rfl
    · exact .inl rfl
    · exact .inr (.inr (.inr rfl))
  | [], some z, h => by
    unfold foldE sayFin at h ⊢
    dsimp only at h ⊢
    by_cases h1 : z < 0
    · rw [decide_eq_true h1] at h; cases h
    · rw [decide_eq_false h1] at h ⊢
      by_cases h2 : z > 20000
      · rw [decide_eq_true h2] at h; cases h
      · rw [decide_eq_false h2]
        exact .inr (.inl ⟨z, by omega, by omega, rfl⟩)
  | x :: l, c, h => by
    rw [foldE_cons] at h ⊢
    cases hs : sayStep c x with
    | inl c' => rw [hs] at h; exact sayFold hn l c' h
    | inr r =>
      rw [hs] at h
      exfalso
      unfold sayStep at hs
      cases hd : ((dec x).2 == 10) with
      | true => rw [hd, cond_true] at hs; cases hs; cases h
      | false =>
        rw [hd, cond_false] at hs
        cases c with
        | none => cases hs
        | some z =>
          cases hz : (sizeOf x == z) with
          | true => simp only [hz, cond_true] at hs; cases hs
          | false => simp only [hz, cond_false] at hs; cases hs; cases h
theorem say_kindW {mi : Int} {l : List S_Field} {n : S_Body} (hn : n = B 0 0 ∨ n = B 3 0) (h : (sayB mi l n).2 = 0) : KindOk (sayB mi l n).1 := by
  unfold sayB at h ⊢
  cases h1 : decide ((valsN l nTE).length > 0) with
  | false => rw [h1, cond_false] at h; rw [cond_false]; exact sayFold hn _ _ h
  | true =>
    rw [h1, cond_true] at h
    rw [cond_true]
    cases h2 : (decide ((valsN l nCL).length > 0) || (mi == 0 || !(lower (Lib.join (valsN l nTE) sep) == chunked))) with
    | true => rw [h2, cond_true] at h; cases h
    | false => rw [cond_false]; exact .inr (.inr (.inl rfl))
structure BodyOk (asks : Bool) (h : S_Message) (b : S_Body) : Prop where
  start : startB h.Start = true
  fields : rightB h.Fields = true
  code : (h.Start.Code == (0 : Int)) = asks
  kind : KindOk b
theorem bodyB_ok {asks : Bool} {m : Bytes} {h : S_Message} (h0 : (bodyB asks m h).2 = 0) : BodyOk asks h (bodyB asks m h).1 := by
  unfold bodyB at h0 ⊢
  cases asks with
  | true =>
    rw [cond_true] at h0 ⊢
    unfold reqB at h0 ⊢
    cases h1 : startB h.Start with
    | false => rw [h1] at h0; cases h0
    | true =>
      cases h2 : (h.Start.Code != (0 : Int)) with
      | true => rw [h1, h2] at h0; cases h0
      | false =>
        cases h3 : rightB h.Fields with
        | false => rw [h1, h2, h3] at h0; cases h0
        | true =>
          rw [h1, h2, h3] at h0
          exact ⟨h1, h3, by simpa using h2, say_kindW (.inl rfl) h0⟩
  | false =>
    rw [cond_false] at h0 ⊢
    unfold ansB at h0 ⊢
    cases h1 : startB h.Start with
    | false => rw [h1] at h0; cases h0
    | true =>
      cases h2 : (h.Start.Code == (0 : Int)) with
      | true => rw [h1, h2] at h0; cases h0
      | false =>
        cases h3 : rightB h.Fields with
        | false => rw [h1, h2, h3] at h0; cases h0
        | true =>
          rw [h1, h2, h3] at h0
          refine ⟨h1, h3, h2, ?_⟩
          revert h0
          show (bif (decide (h.Start.Code < 200) || (h.Start.Code == 204 || (h.Start.Code == 304 || m == ([72, 69, 65, 68] : Bytes)))) then (B 0 0, 0) else sayB h.Start.Minor h.Fields (B 3 0)).2 = (0 : Int) → KindOk (bif (decide (h.Start.Code < 200) || (h.Start.Code == 204 || (h.Start.Code == 304 || m == ([72, 69, 65, 68] : Bytes)))) then (B 0 0, (0 : Int)) else sayB h.Start.Minor h.Fields (B 3 0)).1
          cases (decide (h.Start.Code < 200) || (h.Start.Code == 204 || (h.Start.Code == 304 || m == ([72, 69, 65, 68] : Bytes)))) with
          | true => intro _; exact .inl rfl
          | false => intro h0; exact say_kindW (.inr rfl) h0
/-! ### Hexadecimal numbers -/
theorem u64_id {n : Int} (h : 0 ≤ n) (h' : n < 18446744073709551616) : IntKind.u64.wrap n = n := by
  simp [IntKind.wrap, IntKind.bits, IntKind.signed]
  omega
/-! ### Chunks -/
structure ChOk (c : S_Chunked) : Prop where
  stage : 0 ≤ c.Stage ∧ c.Stage ≤ 4
  size : 0 ≤ c.Size ∧ c.Size ≤ 20000
  line : c.Line.length ≤ 200 ∧ c.Line.contains 10 = false
  data : c.Stage = 1 → 1 ≤ c.Left ∧ c.Left ≤ 20000 - c.Size ∧ c.Line = []
  rest : c.Stage ≠ 1 → c.Left = 0 ∧ (c.Stage = 4 → c.Line = [])
theorem chRight {c : S_Chunked} : Tot (chunk_Right c) (fun b => b = true ↔ ChOk c) := by
  unfold chunk_Right
  by_cases h : (0 ≤ c.Stage ∧ c.Stage ≤ 4) ∧ (0 ≤ c.Size ∧ c.Size ≤ 20000) ∧ c.Line.length ≤ 200
  · obtain ⟨⟨h1, h2⟩, ⟨h3', h4⟩, h5⟩ := h
    have e : (bif (bif (bif (bif (decide ((c.Stage) < (0 : Int))) then true else (decide ((c.Stage) > (4 : Int)))) then true else (decide ((c.Size) < (0 : Int)))) then true else (decide ((c.Size) > (20000 : Int)))) then true else (decide (((c.Line).length : Int) > (200 : Int)))) = false := by
      rw [decide_eq_false (by omega), decide_eq_false (by omega), decide_eq_false (by omega), decide_eq_false (by omega), decide_eq_false (by omega)]; rfl
    rw [e, gcall_tt (show (!false) = true from rfl), Contains_one, Option.bind_some, indexByte_has, cond_false]
    cases hl : c.Line.contains 10 with
    | true => exact Tot.eq rfl (show (false = true ↔ ChOk c) from ⟨fun h => (by cases h), fun h => absurd (h.line.2.symm.trans hl) (by simp)⟩)
    | false =>
      rw [cond_false]
      by_cases h6 : c.Stage = 1
      · have e6 : (c.Stage == (1 : Int)) = true := by simp [h6]
        rw [e6, cond_true]
        have ew : IntKind.i64.wrap ((20000 : Int) - c.Size) = 20000 - c.Size := wrap_i64 (by omega) (by omega)
        rw [ew]
        refine ⟨_, rfl, ⟨fun h => ?_, fun h => ?_⟩⟩
        · cases d1 : decide (c.Left ≥ 1) with
          | false => rw [d1] at h; cases h
          | true =>
            cases d2 : decide (c.Left ≤ 20000 - c.Size) with
            | false => rw [d1, d2] at h; cases h
            | true =>
              rw [d1, d2] at h
              have h3 : (c.Line == ([] : Bytes)) = true := h
              exact ⟨⟨h1, h2⟩, ⟨h3', h4⟩, ⟨h5, hl⟩, fun _ => ⟨of_decide_eq_true d1, of_decide_eq_true d2, eq_of_beq h3⟩, fun hn => absurd h6 hn⟩
        · obtain ⟨g1, g2, g3⟩ := h.data h6
          rw [decide_eq_true g1, decide_eq_true g2, g3]; rfl
      · have e6 : (c.Stage == (1 : Int)) = false := by simp [h6]
        rw [e6, cond_false]
        refine ⟨_, rfl, ⟨fun h => ?_, fun h => ?_⟩⟩
        · by_cases h7 : c.Left = 0
          · refine ⟨⟨h1, h2⟩, ⟨h3', h4⟩, ⟨h5, hl⟩, fun hn => absurd hn h6, fun _ => ⟨h7, fun h8 => ?_⟩⟩
            rw [h7, h8] at h
            simpa using h
          · have : (c.Left == (0 : Int)) = false := by simp [h7]
            rw [this] at h; cases h
        · obtain ⟨g1, g2⟩ := h.rest h6
          rw [g1]
          by_cases h8 : c.Stage = 4
          · rw [g2 h8, h8]; rfl
          · have : (c.Stage != (4 : Int)) = true := by simp [h8]
            rw [this]; rfl
  · have e : (bif (bif (bif (bif (decide ((c.Stage) < (0 : Int))) then true else (decide ((c.Stage) > (4 : Int)))) then true else (decide ((c.Size) < (0 : Int)))) then true else (decide ((c.Size) > (20000 : Int)))) then true else (decide (((c.Line).length : Int) > (200 : Int)))) = true := by
      by_cases h1 : c.Stage < 0
      · rw [decide_eq_true h1]; rfl
      rw [decide_eq_false h1]
      by_cases h2 : c.Stage > 4
      · rw [decide_eq_true h2]; rfl
      rw [decide_eq_false h2]
      by_cases h3 : c.Size < 0
      · rw [decide_eq_true h3]; rfl
      rw [decide_eq_false h3]
      by_cases h4 : c.Size > 20000
      · rw [decide_eq_true h4]; rfl
      rw [decide_eq_false h4]
      have h5 : ((c.Line).length : Int) > (200 : Int) := by omega
      rw [decide_eq_true h5]; rfl
    rw [e, gcall_ff (show (!true) = false from rfl), Option.bind_some]
    exact Tot.eq rfl (show (false = true ↔ ChOk c) from ⟨fun h => (by cases h), fun hc => absurd ⟨hc.stage, hc.size, hc.line.1⟩ h⟩)
end Go.Proofs.YtpionnihpibglaaGreatDoor
namespace Go.Proofs.YtpionnihpibglaaGreatDoor
open Go Go.Pm
set_option linter.unusedSimpArgs false
set_option linter.unusedVariables false
set_option maxRecDepth 100000
def zeroM : S_Message := S_Message.mk zeroS [] []
def zeroC : S_Chunked := S_Chunked.mk 0 [] 0 0
structure RIn (a : Bool) (m : Bytes) (h : S_Message) (b : S_Body) (c : S_Chunked) : Prop where
  start : SSmall h.Start
  fields : FRow h.Fields
  body : bodyB a m h = (b, 0)
  len : h.Body.length ≤ 40000
  noch : b.Kind ≠ 2 → c = zeroC
  k1 : b.Kind = 1 → (h.Body.length : Int) ≤ b.Size
  k2 : b.Kind = 2 → ChOk c ∧ c.Stage ≠ 4 ∧ c.Size = (h.Body.length : Int)
  k3 : b.Kind = 3 → h.Body.length ≤ 20000
inductive XOk (a : Bool) (m : Bytes) : S_Reader → Prop
  | bad (e : Int) (he : e ≠ 0) : XOk a m (S_Reader.mk a m [] false zeroM (B 0 0) zeroC e)
  | out (b : Bytes) (hb : b.length ≤ 4000) : XOk a m (S_Reader.mk a m b false zeroM (B 0 0) zeroC 0)
  | inn (h : S_Message) (b : S_Body) (c : S_Chunked) (hr : RIn a m h b c) (h1 : b.Kind = 1 → (h.Body.length : Int) < b.Size) (h0 : b.Kind ≠ 0) : XOk a m (S_Reader.mk a m [] true h b c 0)
theorem RIn.kind {a : Bool} {m : Bytes} {h : S_Message} {b : S_Body} {c : S_Chunked} (hr : RIn a m h b c) : BodyOk a h b := by
  have := bodyB_ok (asks := a) (m := m) (h := h) (by rw [hr.body])
  rw [hr.body] at this
  exact this
theorem whole_eq {w : S_wire_reading} (h : w.out.length ≤ 1000000) : wire_reading_whole w = some (true, S_wire_reading.mk (S_Reader.mk w.Reader.Asks w.Reader.Method w.Reader.Buf false zeroM (B 0 0) zeroC w.Reader.Bad) (w.out ++ [w.Reader.Head])) := by
  unfold wire_reading_whole app
  rw [chk_pos (by unfold maxLen; simp; omega), Option.bind_some]
  rfl
noncomputable def begT (rd : Bytes → Option (S_Start × Int)) (j1 : S_wire_reading) (e : Int) (x10 : Bytes × Bytes × Bool) : Option (Bool × S_wire_reading) :=
        (strings_TrimSuffix (x10.1) ([13] : Bytes)).bind fun x11 =>
        (rd x11).bind fun x12 =>
        bif ((x12.2) != (0 : Int)) then
          (wire_reading_fail (S_wire_reading.mk (S_Reader.mk ((j1.Reader).Asks) ((j1.Reader).Method) ((j1.Reader).Buf) ((j1.Reader).In) (S_Message.mk (x12.1) (((j1.Reader).Head).Fields) (((j1.Reader).Head).Body)) ((j1.Reader).Body) ((j1.Reader).Chunk) ((j1.Reader).Bad)) (j1.out)) (x12.2)).bind fun x13 =>
          some ((x13.1), (x13.2))
        else
          (strings_TrimSuffix (x10.2.1) ([10] : Bytes)).bind fun x14 =>
          (strings_TrimSuffix x14 ([13] : Bytes)).bind fun x15 =>
          (head_Parse x15).bind fun x16 =>
          bif ((x16.2) != (0 : Int)) then
            (wire_reading_fail (S_wire_reading.mk (S_Reader.mk ((j1.Reader).Asks) ((j1.Reader).Method) ((j1.Reader).Buf) ((j1.Reader).In) (S_Message.mk (x12.1) (x16.1) (((j1.Reader).Head).Body)) ((j1.Reader).Body) ((j1.Reader).Chunk) ((j1.Reader).Bad)) (j1.out)) (x16.2)).bind fun x17 =>
            some ((x17.1), (x17.2))
          else
            (wire_body (S_Reader.mk ((j1.Reader).Asks) ((j1.Reader).Method) ((j1.Reader).Buf) ((j1.Reader).In) (S_Message.mk (x12.1) (x16.1) (((j1.Reader).Head).Body)) ((j1.Reader).Body) ((j1.Reader).Chunk) ((j1.Reader).Bad))).bind fun x18 =>
            bif ((x18.2) != (0 : Int)) then
              (wire_reading_fail (S_wire_reading.mk (S_Reader.mk ((j1.Reader).Asks) ((j1.Reader).Method) ((j1.Reader).Buf) ((j1.Reader).In) (S_Message.mk (x12.1) (x16.1) (((j1.Reader).Head).Body)) (x18.1) ((j1.Reader).Chunk) ((j1.Reader).Bad)) (j1.out)) (x18.2)).bind fun x19 =>
              some ((x19.1), (x19.2))
            else
              (slc ((j1.Reader).Buf) e (((j1.Reader).Buf).length : Int)).bind fun x20 =>
              bif (bif (((x12.1).Code) != (0 : Int)) then (decide (((x12.1).Code) < (200 : Int))) else false) then
                some (true, (S_wire_reading.mk (S_Reader.mk ((j1.Reader).Asks) ((j1.Reader).Method) x20 ((j1.Reader).In) (S_Message.mk (S_Start.mk ([] : Bytes) ([] : Bytes) (0 : Int) ([] : Bytes) (0 : Int)) ([] : List S_Field) ([] : Bytes)) (S_Body.mk (0 : Int) (0 : Int)) ((j1.Reader).Chunk) ((j1.Reader).Bad)) (j1.out)))
              else
                some (true, (S_wire_reading.mk (S_Reader.mk ((j1.Reader).Asks) ((j1.Reader).Method) x20 true (S_Message.mk (x12.1) (x16.1) (((j1.Reader).Head).Body)) (x18.1) ((j1.Reader).Chunk) ((j1.Reader).Bad)) (j1.out)))
theorem begin_eq (w : S_wire_reading) : wire_reading_begin w = (loopO (wire_reading_begin_b1) w).bind fun j1 => (head_End ((j1.Reader).Buf)).bind fun x7 =>
  bif ((x7.2) == (3 : Int)) then some (false, j1)
  else bif ((x7.2) != (0 : Int)) then (wire_reading_fail j1 (x7.2)).bind fun x8 => some ((x8.1), (x8.2))
  else (slc ((j1.Reader).Buf) 0 (x7.1)).bind fun x9 => (strings_Cut x9 ([10] : Bytes)).bind fun x10 =>
    bif (j1.Reader).Asks then begT start_Parse j1 (x7.1) x10 else begT start_Status j1 (x7.1) x10 := rfl
end Go.Proofs.YtpionnihpibglaaGreatDoor
namespace Go.Proofs.YtpionnihpibglaaGreatDoor
open Go Go.Pm
set_option linter.unusedSimpArgs false
set_option linter.unusedVariables false
set_option maxRecDepth 100000
theorem empty_tot (h : S_Message) : Tot (wire_empty h) (fun b => b = true ↔ h = zeroM) := by
  unfold wire_empty
  refine .now ?_
  obtain ⟨⟨a, b, c, d, e⟩, f, g⟩ := h
  unfold zeroM zeroS
  cases f <;> simp [and_assoc] <;> intros <;> omega
theorem bare_tot (r : S_Reader) : Tot (wire_bare r) (fun b => b = true ↔ (r.Buf = [] ∧ r.In = false ∧ r.Head = zeroM ∧ r.Body = B 0 0 ∧ r.Chunk = zeroC)) := by
  obtain ⟨A, M, Bf, I, H, ⟨k, z⟩, ⟨c1, c2, c3, c4⟩, E⟩ := r
  obtain ⟨x, hx, hi⟩ := empty_tot H
  unfold wire_bare
  rw [show gcall _ (wire_empty (S_Reader.mk A M Bf I H (S_Body.mk k z) (S_Chunked.mk c1 c2 c3 c4) E).Head) = _ from gcall_val (fun _ => hx), Option.bind_some]
  refine .now ?_
  unfold B zeroC
  dsimp only
  cases hb : (Bf == ([] : Bytes)) with
  | false =>
    have : Bf ≠ [] := by simpa using hb
    simp [this]
  | true =>
    have hb : Bf = [] := by simpa using hb
    cases I with
    | true => simp
    | false =>
      cases x with
      | false =>
        have : H ≠ zeroM := fun h => by have := hi.2 h; cases this
        simp [this]
      | true => simp [hb, hi.1 rfl, and_assoc]
theorem bodyEq (a b : S_Body) : ((a.Kind == b.Kind) && ((a.Size == b.Size) && true)) = true ↔ a = b := by
  obtain ⟨a1, a2⟩ := a
  obtain ⟨b1, b2⟩ := b
  simp
theorem zeroCh (c : S_Chunked) : ((c.Stage == (0 : Int)) && ((c.Line == ([] : Bytes)) && ((c.Left == (0 : Int)) && ((c.Size == (0 : Int)) && true)))) = true ↔ c = zeroC := by
  obtain ⟨c1, c2, c3, c4⟩ := c
  unfold zeroC
  simp
theorem right_tot {r : S_Reader} (hs : SSmall r.Head.Start) (hf : FRow r.Head.Fields) (hl : r.Head.Body.length ≤ 40000) : Tot (wire_Right r) (fun b => b = true ↔ XOk r.Asks r.Method r) := by
  obtain ⟨A, M, Bf, I, H, Bd, C, E⟩ := r
  simp only at hs hf hl
  unfold wire_Right
  dsimp only
  by_cases hE : E = 0
  · subst hE
    rw [show ((0 : Int) != 0) = false from rfl, cond_false]
    cases I with
    | false =>
      rw [show (!false) = true from rfl, cond_true]
      obtain ⟨x, hx, hi⟩ := bare_tot (S_Reader.mk A M [] false H Bd C 0)
      rw [hx, Option.bind_some]
      refine .now ⟨fun h => ?_, fun h => ?_⟩
      · cases x with
        | false => cases h
        | true =>
          have hb : decide ((Bf.length : Int) ≤ 4000) = true := h
          have hb := of_decide_eq_true hb
          obtain ⟨_, _, h1, h2, h3⟩ := hi.1 rfl
          simp only at h1 h2 h3
          subst h1 h2 h3
          exact .out _ (by omega)
      · have : H = zeroM ∧ Bd = B 0 0 ∧ C = zeroC ∧ Bf.length ≤ 4000 := by
          cases h with
          | bad e he => exact absurd rfl he
          | out _ hb => exact ⟨rfl, rfl, rfl, hb⟩
        obtain ⟨rfl, rfl, rfl, hb⟩ := this
        rw [hi.2 ⟨rfl, rfl, rfl, rfl, rfl⟩, cond_true]
        exact decide_eq_true (by omega)
    | true =>
      rw [show (!true) = false from rfl, cond_false, wbody_eq (r := S_Reader.mk A M Bf true H Bd C 0) hs hf, Option.bind_some]
      show Tot (bif (bif (bif (bif (((bodyB A M H)).2 != (0 : Int)) then true else (!((((bodyB A M H).1.Kind) == (Bd.Kind)) && ((((bodyB A M H).1.Size) == (Bd.Size)) && true)))) then true else (!(Bf == ([] : Bytes)))) then true else (bif (((bodyB A M H).1.Kind) != (2 : Int)) then (!(((C.Stage) == (0 : Int)) && (((C.Line) == ([] : Bytes)) && (((C.Left) == (0 : Int)) && (((C.Size) == (0 : Int)) && true))))) else false)) then _ else _) _
      have key : XOk A M (S_Reader.mk A M Bf true H Bd C 0) → bodyB A M H = (Bd, 0) ∧ Bf = [] ∧ RIn A M H Bd C ∧ (Bd.Kind = 1 → (H.Body.length : Int) < Bd.Size) ∧ Bd.Kind ≠ 0 := fun h => by
        cases h with
        | inn _ _ _ hr h1 h0 => exact ⟨hr.body, rfl, hr, h1, h0⟩
      generalize hbb : bodyB A M H = bb at key ⊢
      by_cases h2 : bb.2 = 0
      · rw [show (bb.2 != (0 : Int)) = false by rw [h2]; rfl, cond_false]
        cases hb : ((bb.1.Kind == Bd.Kind) && ((bb.1.Size == Bd.Size) && true)) with
        | false =>
          refine .now ⟨fun h => (by cases h), fun h => ?_⟩
          have := (key h).1
          have : (bb.1.Kind == Bd.Kind) && ((bb.1.Size == Bd.Size) && true) := (bodyEq _ _).2 (by rw [this])
          rw [this] at hb
          cases hb
        | true =>
          have hb := (bodyEq _ _).1 hb
          subst hb
          rw [show (!true) = false from rfl, cond_false]
          cases hf0 : (Bf == ([] : Bytes)) with
          | false =>
            refine .now ⟨fun h => (by cases h), fun h => ?_⟩
            have := (key h).2.1
            rw [this] at hf0
            cases hf0
          | true =>
            have hf0 : Bf = [] := by simpa using hf0
            subst hf0
            rw [show (!true) = false from rfl, cond_false]
            have hbody : bodyB A M H = (bb.1, 0) := by rw [hbb, ← h2]
            have hko := (bodyB_ok (asks := A) (m := M) (h := H) (by rw [hbody])).kind
            rw [hbody] at hko
            have hko : KindOk bb.1 := hko
            generalize bb.1 = Bd at *
            cases hc : (bif (Bd.Kind != (2 : Int)) then (!(((C.Stage) == (0 : Int)) && (((C.Line) == ([] : Bytes)) && (((C.Left) == (0 : Int)) && (((C.Size) == (0 : Int)) && true))))) else false) with
            | true =>
              refine .now ⟨fun h => (by cases h), fun h => ?_⟩
              have hr := (key h).2.2.1
              by_cases hk : Bd.Kind = 2
              · rw [hk] at hc; cases hc
              · have := hr.noch hk
                subst this
                rw [(zeroCh zeroC).2 rfl] at hc
                have e : (Bd.Kind != (2 : Int)) = true := by simpa using hk
                rw [e] at hc
                cases hc
            | false =>
              have hnc : Bd.Kind ≠ 2 → C = zeroC := fun hk => by
                have e : (Bd.Kind != (2 : Int)) = true := by simpa using hk
                rw [e, cond_true] at hc
                refine (zeroCh C).1 ?_
                simpa using hc
              rw [cond_false]
              rcases hko with rfl | ⟨z, hz0, hz1, rfl⟩ | rfl | rfl
              · refine .now ⟨fun h => (by cases h), fun h => absurd rfl (key h).2.2.2.2⟩
              · refine .now ⟨fun h => ?_, fun h => ?_⟩
                · have h := of_decide_eq_true h
                  have h : (H.Body.length : Int) < z := h
                  exact .inn _ _ _ ⟨hs, hf, hbody, hl, hnc, fun _ => by show (H.Body.length : Int) ≤ z; omega, fun h => (by cases h), fun h => (by cases h)⟩ (fun _ => h) (by simp [B])
                · exact decide_eq_true ((key h).2.2.2.1 rfl)
              · obtain ⟨x, hx, hi⟩ := chRight (c := C)
                show Tot ((chunk_Right C).bind _) _
                rw [hx, Option.bind_some]
                refine .now ⟨fun h => ?_, fun h => ?_⟩
                · cases x with
                  | false => cases h
                  | true =>
                    cases h4 : (C.Stage != (4 : Int)) with
                    | false => rw [cond_true, h4] at h; cases h
                    | true =>
                      rw [cond_true, h4, cond_true] at h
                      exact .inn _ _ _ ⟨hs, hf, hbody, hl, hnc, fun h => (by cases h), fun _ => ⟨hi.1 rfl, by simpa using h4, by simpa using h⟩, fun h => (by cases h)⟩ (fun h => by cases h) (by simp [B])
                · obtain ⟨g1, g2, g3⟩ := (key h).2.2.1.k2 rfl
                  rw [hi.2 g1, cond_true, show (C.Stage != (4 : Int)) = true by simpa using g2, cond_true, g3]
                  simp
              · refine .now ⟨fun h => ?_, fun h => ?_⟩
                · have h := of_decide_eq_true h
                  exact .inn _ _ _ ⟨hs, hf, hbody, hl, hnc, fun h => (by cases h), fun h => (by cases h), fun _ => by omega⟩ (fun h => by cases h) (by simp [B])
                · have := (key h).2.2.1.k3 rfl
                  exact decide_eq_true (by omega)
      · have e : (bb.2 != (0 : Int)) = true := by simpa using h2
        rw [e, cond_true, cond_true, cond_true, cond_true]
        refine .now ⟨fun h => (by cases h), fun h => ?_⟩
        have := (key h).1
        rw [this] at h2
        exact absurd rfl h2
  · have e : (E != (0 : Int)) = true := by simpa using hE
    rw [e, cond_true]
    obtain ⟨x, hx, hi⟩ := bare_tot (S_Reader.mk A M Bf I H Bd C E)
    rw [hx, Option.bind_some]
    refine .now ⟨fun h => ?_, fun h => hi.2 ?_⟩
    · obtain ⟨h1, h2, h3, h4, h5⟩ := hi.1 h
      simp only at h1 h2 h3 h4 h5
      subst h1 h2 h3 h4 h5
      exact .bad _ hE
    · cases h with
      | bad => exact ⟨rfl, rfl, rfl, rfl, rfl⟩
      | out => exact absurd rfl hE
      | inn => exact absurd rfl hE
theorem zeroM_small : SSmall zeroM.Start ∧ FRow zeroM.Fields := ⟨⟨Nat.zero_le _, Nat.zero_le _, Nat.zero_le _⟩, ⟨by simp [zeroM], fun f hf => by cases hf⟩⟩
theorem XOk.head {a : Bool} {m : Bytes} {r : S_Reader} (h : XOk a m r) : SSmall r.Head.Start ∧ FRow r.Head.Fields ∧ r.Head.Body.length ≤ 40000 := by
  cases h with
  | bad => exact ⟨zeroM_small.1, zeroM_small.2, Nat.zero_le _⟩
  | out => exact ⟨zeroM_small.1, zeroM_small.2, Nat.zero_le _⟩
  | inn _ _ _ hr => exact ⟨hr.start, hr.fields, hr.len⟩
theorem XOk.asks {a : Bool} {m : Bytes} {r : S_Reader} (h : XOk a m r) : r.Asks = a ∧ r.Method = m := by
  cases h <;> exact ⟨rfl, rfl⟩
theorem XOk.right {a : Bool} {m : Bytes} {r : S_Reader} (h : XOk a m r) : wire_Right r = some true := by
  obtain ⟨h1, h2, h3⟩ := h.head
  obtain ⟨x, hx, hi⟩ := right_tot h1 h2 h3
  rw [hx, hi.2 (by rw [h.asks.1, h.asks.2]; exact h)]
theorem XOk.buf {a : Bool} {m : Bytes} {r : S_Reader} (h : XOk a m r) : r.Buf.length ≤ 4000 := by
  cases h with
  | bad => exact Nat.zero_le _
  | out _ hb => exact hb
  | inn => exact Nat.zero_le _
theorem XOk.body {a : Bool} {m : Bytes} {r : S_Reader} (h : XOk a m r) : r.Head.Body.length ≤ 20000 := by
  cases h with
  | bad => exact Nat.zero_le _
  | out => exact Nat.zero_le _
  | inn h b c hr h1 h0 =>
    show h.Body.length ≤ 20000
    rcases hr.kind.kind with rfl | ⟨z, hz0, hz1, rfl⟩ | rfl | rfl
    · exact absurd rfl h0
    · have : (h.Body.length : Int) < z := h1 rfl
      omega
    · obtain ⟨g1, _, g3⟩ := hr.k2 rfl
      have := g1.size
      omega
    · exact hr.k3 rfl
/-! ### It runs -/
def aliveL : Bytes := [71, 69, 84, 32, 47, 32, 72, 84, 84, 80, 47, 49, 46, 49]
def aliveS : S_Start := S_Start.mk [71, 69, 84] [47] 0 [] 1
def rd0 (b : Bytes) : S_Reader := S_Reader.mk true [] b false zeroM (B 0 0) zeroC 0
theorem alive_line : start_Parse aliveL = some (aliveS, 0) := by
  have hp : printB aliveS = aliveL := by kernel_rfl
  rw [Parse_eq (by decide), ← hp, (print0 (s := aliveS) (by kernel_rfl) rfl).1]
theorem skip_none {w : S_wire_reading} (h : wire_reading_begin_b1 w = some (.inr w)) : loopO wire_reading_begin_b1 w = some w := by rw [loopO_eq, h]
theorem alive_begin : wire_reading_begin (S_wire_reading.mk (rd0 (aliveL ++ [13, 10, 13, 10])) []) = some (true, S_wire_reading.mk (S_Reader.mk true [] [] true (S_Message.mk aliveS [] []) (B 0 0) zeroC 0) []) := by
  rw [begin_eq, skip_none (by kernel_rfl), Option.bind_some]
  have hE : head_End (S_wire_reading.mk (rd0 (aliveL ++ [13, 10, 13, 10])) []).Reader.Buf = some (18, 0) := by kernel_rfl
  rw [hE, Option.bind_some]
  have hS : slc (S_wire_reading.mk (rd0 (aliveL ++ [13, 10, 13, 10])) []).Reader.Buf 0 18 = some (aliveL ++ [13, 10, 13, 10]) := by kernel_rfl
  show ((slc (S_wire_reading.mk (rd0 (aliveL ++ [13, 10, 13, 10])) []).Reader.Buf 0 18).bind fun x9 => (strings_Cut x9 ([10] : Bytes)).bind fun x10 => begT start_Parse _ _ x10) = _
  rw [hS, Option.bind_some, Cut_one 10 (by decide), Option.bind_some]
  have hC : cutC 10 (aliveL ++ [13, 10, 13, 10]) = (aliveL ++ [13], [13, 10], true) := by kernel_rfl
  rw [hC]
  unfold begT
  have h1 : strings_TrimSuffix (aliveL ++ [13], ([13, 10] : Bytes), true).1 ([13] : Bytes) = some aliveL := by kernel_rfl
  rw [h1, Option.bind_some, alive_line, Option.bind_some]
  rw [show ((aliveS, (0 : Int)).2 != (0 : Int)) = false from rfl, cond_false]
  have h2 : strings_TrimSuffix (aliveL ++ [13], ([13, 10] : Bytes), true).2.1 ([10] : Bytes) = some [13] := by kernel_rfl
  have h3 : strings_TrimSuffix ([13] : Bytes) ([13] : Bytes) = some [] := by kernel_rfl
  have h4 : head_Parse ([] : Bytes) = some ([], 0) := by kernel_rfl
  rw [h2, Option.bind_some, h3, Option.bind_some, h4, Option.bind_some]
  rw [show ((([] : List S_Field), (0 : Int)).2 != (0 : Int)) = false from rfl, cond_false]
  have h5 : wire_body (S_Reader.mk true [] (aliveL ++ [13, 10, 13, 10]) false (S_Message.mk aliveS [] []) (B 0 0) zeroC 0) = some (B 0 0, 0) := by
    rw [wbody_eq (r := S_Reader.mk true [] (aliveL ++ [13, 10, 13, 10]) false (S_Message.mk aliveS [] []) (B 0 0) zeroC 0) ⟨by decide, by decide, by decide⟩ zeroM_small.2]
    kernel_rfl
  dsimp only [rd0, zeroM]
  rw [h5, Option.bind_some]
  rfl
theorem alive_eq : intarsialaw10_alive = some true := by
  have h0 : XOk true [] (rd0 []) := .out [] (by decide)
  have hF : wire_Feed (rd0 []) (aliveL ++ [13, 10, 13, 10]) = some (rd0 [], [S_Message.mk aliveS [] []], 0) := by
    unfold wire_Feed
    rw [h0.right, Option.bind_some, show (!true) = false from rfl, cond_false]
    show ((cat ([] : Bytes) (aliveL ++ [13, 10, 13, 10])).bind fun x2 => loopO (wire_Feed_b1) (S_wire_reading.mk (rd0 x2) [])) = _
    have hc : cat ([] : Bytes) (aliveL ++ [13, 10, 13, 10]) = some (aliveL ++ [13, 10, 13, 10]) := by kernel_rfl
    rw [hc, Option.bind_some, loopO_eq]
    unfold wire_Feed_b1
    rw [show (S_wire_reading.mk (rd0 (aliveL ++ [13, 10, 13, 10])) []).Reader.In = false from rfl, cond_false, alive_begin, Option.bind_some]
    show loopO wire_Feed_b1 _ = _
    rw [loopO_eq]
    unfold wire_Feed_b1
    dsimp only
    have hm : wire_reading_more (S_wire_reading.mk (S_Reader.mk true [] [] true (S_Message.mk aliveS [] []) (B 0 0) zeroC 0) []) = some (true, S_wire_reading.mk (rd0 []) [S_Message.mk aliveS [] []]) := by
      have e : wire_reading_more (S_wire_reading.mk (S_Reader.mk true [] [] true (S_Message.mk aliveS [] []) (B 0 0) zeroC 0) []) = (wire_reading_whole (S_wire_reading.mk (S_Reader.mk true [] [] true (S_Message.mk aliveS [] []) (B 0 0) zeroC 0) [])).bind fun x1 => some (x1.1, x1.2) := rfl
      rw [e, whole_eq (by decide), Option.bind_some]
      rfl
    rw [cond_true, hm, Option.bind_some]
    show loopO wire_Feed_b1 _ = _
    rw [loopO_eq]
    unfold wire_Feed_b1
    rw [show (S_wire_reading.mk (rd0 []) [S_Message.mk aliveS [] []]).Reader.In = false from rfl, cond_false, begin_eq, skip_none (by kernel_rfl), Option.bind_some]
    have hE : head_End (S_wire_reading.mk (rd0 []) [S_Message.mk aliveS [] []]).Reader.Buf = some (0, 3) := by kernel_rfl
    rw [hE]
    rfl
  unfold intarsialaw10_alive wire_New
  rw [Option.bind_some]
  have hF' : wire_Feed (S_Reader.mk true [] ([] : Bytes) false (S_Message.mk (S_Start.mk ([] : Bytes) ([] : Bytes) (0 : Int) ([] : Bytes) (0 : Int)) ([] : List S_Field) ([] : Bytes)) (S_Body.mk (0 : Int) (0 : Int)) (S_Chunked.mk (0 : Int) ([] : Bytes) (0 : Int) (0 : Int)) (0 : Int)) ([71, 69, 84, 32, 47, 32, 72, 84, 84, 80, 47, 49, 46, 49, 13, 10, 13, 10] : Bytes) = some (rd0 [], [S_Message.mk aliveS [] []], 0) := hF
  rw [hF', Option.bind_some]
  show (gidx true [S_Message.mk aliveS [] []] 0).bind _ = some true
  kernel_rfl
/-! ### The law -/
def cutM (h : S_Message) : S_Message := S_Message.mk (cutS h.Start) (cutL h.Fields) (h.Body.take 21000)
theorem few_eq (h : S_Message) : intarsialaw10_few h = some (cutM h) := by
  unfold intarsialaw10_few
  rw [slc_cut h.Start.Method 40 (K := 40) rfl, Option.bind_some, slc_cut h.Start.Target 520 (K := 520) rfl, Option.bind_some, slc_cut h.Start.Reason 120 (K := 120) rfl, Option.bind_some, slc_cut h.Fields 45 (K := 45) rfl, Option.bind_some]
  have hm : (h.Fields.take 45).length ≤ 45 := by simp; omega
  unfold cutM cutL
  generalize h.Fields.take 45 = m at *
  rw [chk_pos ⟨big (by omega), by omega⟩]
  have key : loopO (intarsialaw10_few_b1 m) ((0 : Int), m) = some (m.map cutF) := by
    have h := loopO_rec (body := intarsialaw10_few_b1 m) (fun _ => m.map cutF) (fun x => m.length - x.1.toNat) (fun x => ∃ i : Nat, i ≤ m.length ∧ x = ((i : Int), (m.take i).map cutF ++ m.drop i)) ?_ ((0 : Int), m) ⟨0, Nat.zero_le _, by simp⟩
    · exact h
    · rintro _ ⟨i, hi, rfl⟩
      rcases Nat.lt_or_ge i m.length with hlt | hge
      · left
        have hl : ((m.take i).map cutF).length = i := by simp; omega
        have hget : ((m.take i).map cutF ++ m.drop i)[i]? = some m[i] := by
          rw [List.getElem?_append_right (by omega), hl]
          simp
        have hll : ((m.take i).map cutF ++ m.drop i).length = m.length := by simp; omega
        refine ⟨(((i + 1 : Nat) : Int), (m.take (i + 1)).map cutF ++ m.drop (i + 1)), ?_, ⟨i + 1, hlt, rfl⟩, by simp; omega, rfl⟩
        have hnew : ((m.take i).map cutF ++ m.drop i).set i (cutF m[i]) = (m.take (i + 1)).map cutF ++ m.drop (i + 1) := by
          rw [List.take_succ_eq_append_getElem hlt, List.drop_eq_getElem_cons hlt]
          rw [List.set_append_right _ _ (by omega), hl, Nat.sub_self, List.set_cons_zero, List.map_append, List.append_assoc]; rfl
        unfold intarsialaw10_few_b1
        dsimp only
        rw [dlt_true hlt, cond_true, chk_pos (by omega), idx_at hget, Option.bind_some, slc_cut m[i].Name 60 (K := 60) rfl, Option.bind_some, slc_cut m[i].Value 1010 (K := 1010) rfl, Option.bind_some, chk_pos (by omega), seti_at (by omega), Option.bind_some, wrap_inc hlt (big (by omega))]
        show some (Sum.inl (_, List.set _ i (cutF m[i]))) = _
        rw [hnew]
      · right
        have : i = m.length := by omega
        subst this
        unfold intarsialaw10_few_b1
        dsimp only
        rw [dlt_self, cond_false]
        simp
  rw [key, Option.bind_some, slc_cut h.Body 21000 (K := 21000) rfl, Option.bind_some, chk_pos (by simp), List.take_of_length_le (l := m.map cutF) (by simp)]
  rfl
end Go.Proofs.YtpionnihpibglaaGreatDoor
namespace Go.Proofs.YtpionnihpibglaaGreatDoor
open Go Go.Pm
set_option linter.unusedSimpArgs false
set_option linter.unusedVariables false
set_option maxRecDepth 100000
abbrev FR : Type := S_Reader × List S_Message × Int
def pre (o : List S_Message) (w : S_wire_reading) : S_wire_reading := S_wire_reading.mk w.Reader (o ++ w.out)
end Go.Proofs.YtpionnihpibglaaGreatDoor
namespace Go.Proofs.YtpionnihpibglaaGreatDoor
open Go Go.Pm
set_option linter.unusedSimpArgs false
set_option linter.unusedVariables false
set_option maxRecDepth 100000
def okL : Bytes := [72, 84, 84, 80, 47, 49, 46, 48, 32, 50, 48, 48, 32, 79, 75]
/-! ### A head that tells its length -/
def lenH (d : Bytes) : Bytes := okL ++ [13] ++ 10 :: (nCL ++ 58 :: 32 :: d ++ [13] ++ 10 :: ([13] ++ 10 :: []))
end Go.Proofs.YtpionnihpibglaaGreatDoor
namespace Go.Proofs.YtpionnihpibglaaGreatDoor
open Go Go.Pm
set_option linter.unusedSimpArgs false
set_option linter.unusedVariables false
set_option maxRecDepth 100000
def lineOf (f : S_Field) : Bytes := f.Name ++ 58 :: 32 :: f.Value
def textOf : List S_Field → Bytes
  | [] => []
  | f :: l => lineOf f ++ [13] ++ 10 :: textOf l
theorem textOf_cons (f : S_Field) (l : List S_Field) : textOf (f :: l) = lineOf f ++ [13] ++ 10 :: textOf l := rfl
def headOf (l : Bytes) (fs : List S_Field) : Bytes := l ++ [13] ++ 10 :: (textOf fs ++ ([13] ++ 10 :: []))
theorem rightB_len {l : List S_Field} (h : rightB l = true) : l.length ≤ 40 := by
  unfold rightB at h
  rw [Bool.and_eq_true] at h
  exact of_decide_eq_true h.1
end Go.Proofs.YtpionnihpibglaaGreatDoor
namespace Go.Proofs.YtpionnihpibglaaGreatDoor
open Go Go.Pm
set_option linter.unusedSimpArgs false
set_option linter.unusedVariables false
set_option maxRecDepth 100000
def hexC (k : Nat) : UInt8 := bif decide (k < 10) then UInt8.ofNat (48 + k) else UInt8.ofNat (87 + k)
def hexL : Nat → Nat → List Nat
  | 0, _ => []
  | f + 1, n => bif decide (n < 16) then [n] else hexL f (n / 16) ++ [n % 16]
def hexD (n : Nat) : Bytes := (hexL 5 n).map hexC
def valN : Nat → List Nat → Nat
  | z, [] => z
  | z, k :: r => valN (z * 16 + k) r
theorem valN_append : ∀ (r t : List Nat) (z : Nat), valN z (r ++ t) = valN (valN z r) t
  | [], t, z => rfl
  | k :: r, t, z => valN_append r t _
theorem hexL_ok : ∀ (f n : Nat), n < 16 ^ f → (∀ k, k ∈ hexL f n → k < 16) ∧ valN 0 (hexL f n) = n ∧ (hexL f n).length ≤ f
  | 0, n, h => ⟨fun k hk => (by cases hk), (by simp at h; subst h; rfl), Nat.le_refl _⟩
  | f + 1, n, h => by
    unfold hexL
    by_cases h16 : n < 16
    · rw [decide_eq_true h16, cond_true]
      exact ⟨fun k hk => by rw [List.mem_singleton.1 hk]; exact h16, by show 0 * 16 + n = n; omega, by simp⟩
    · rw [decide_eq_false h16, cond_false]
      obtain ⟨h1, h2, h3⟩ := hexL_ok f (n / 16) (by rw [Nat.pow_succ] at h; omega)
      refine ⟨fun k hk => ?_, ?_, by simp; omega⟩
      · rcases List.mem_append.1 hk with hk | hk
        · exact h1 k hk
        · rw [List.mem_singleton.1 hk]; omega
      · rw [valN_append, h2]
        show n / 16 * 16 + n % 16 = n
        omega
theorem hexL_ne : ∀ (f n : Nat), hexL (f + 1) n ≠ [] := fun f n h => by
  unfold hexL at h
  cases hd : decide (n < 16) <;> rw [hd] at h <;> simp at h
theorem hexC_all {p : Nat → UInt8 → Bool} (h : ((List.range 16).all fun k => p k (hexC k)) = true) {k : Nat} (hk : k < 16) : p k (hexC k) = true := List.all_eq_true.1 h k (List.mem_range.2 hk)
theorem hexD_len {n : Nat} (h : n ≤ 20000) : 1 ≤ (hexD n).length ∧ (hexD n).length ≤ 5 := by
  unfold hexD
  rw [List.length_map]
  have := (hexL_ok 5 n (by omega)).2.2
  cases hl : hexL 5 n with
  | nil => exact absurd hl (hexL_ne 4 n)
  | cons a l => rw [hl] at this; simp at this ⊢; omega
/-! ### A chunk -/
def chEnd : Bytes := [48, 13, 10, 13, 10]
def encB0 (b : Bytes) : Bytes := bif b == [] then [] else hexD b.length ++ ([13, 10] ++ (b ++ [13, 10]))
end Go.Proofs.YtpionnihpibglaaGreatDoor
namespace Go.Proofs.YtpionnihpibglaaGreatDoor
open Go Go.Pm
set_option linter.unusedSimpArgs false
set_option linter.unusedVariables false
theorem refLower_eq {s : Bytes} (hs : s.length ≤ maxLen) : intarsiaref03_Lower s = some (lower s) := by
  unfold intarsiaref03_Lower
  have hfold : ∀ (l acc : Bytes), foldE (ρ := Bytes) (fun a b => .inl (a ++ [lowB b])) (fun a => a) l acc = acc ++ lower l := by
    intro l
    induction l with
    | nil => intro acc; simp [foldE, lower]
    | cons x l ih =>
      intro acc
      show foldE _ _ l (acc ++ [lowB x]) = _
      rw [ih]; simp [lower]
  have key := loop_list (body := intarsiaref03_Lower_b1 s) s (fun i b => (b, (i : Int))) (fun a b => .inl (a ++ [lowB b])) (fun a => a) (fun i b => b.length = i) (fun i b x hx hi => ?_) (fun b hi => ?_) [] rfl
  · rw [show (([] : Bytes), (0 : Int)) = (([] : Bytes), ((0 : Nat) : Int)) from rfl, key, hfold]; rfl
  · have hlt := lt_of_get hx
    refine .inl ⟨_, rfl, ?_, by simp [hi]⟩
    unfold intarsiaref03_Lower_b1
    dsimp only
    rw [dlt_true hlt, cond_true, idx_at hx, Option.bind_some, cat_ok (by simp; omega), cat_ok (by simp; omega), Option.bind_some, Option.bind_some, wrap_inc hlt hs, u8_nat]
    have h2 := low2 x
    cases hc : (bif (decide ((x.toNat : Int) ≥ (65 : Int))) then (decide ((x.toNat : Int) ≤ (90 : Int))) else false) with
    | true => rw [hc, cond_true] at h2; rw [cond_true, h2]
    | false => rw [hc, cond_false] at h2; rw [cond_false, ← h2]
  · unfold intarsiaref03_Lower_b1
    dsimp only
    rw [dlt_self]; rfl
theorem refSame_eq {s t : Bytes} (hs : s.length ≤ maxLen) (ht : t.length ≤ maxLen) : intarsiaref04_same s t = some (lower s == lower t) := by
  unfold intarsiaref04_same
  rw [refLower_eq hs, Option.bind_some, refLower_eq ht]; rfl
theorem refRemove_eq {l : List S_Field} {n : Bytes} (hl : l.length ≤ 1000000) (h : ∀ f, f ∈ l → FSmall f) (hn : n.length ≤ maxLen) : intarsiaref04_Remove l n = some (l.filter fun f => !isN n f) := by
  unfold intarsiaref04_Remove
  have key := loop_list (body := intarsiaref04_Remove_b1 l n) l (fun i b => (b, (i : Int))) (fun a x => .inl (bif !isN n x then a ++ [x] else a)) (fun a => a) (fun i b => b.length ≤ i) (fun i b x hx hi => ?_) (fun b hi => ?_) [] (Nat.le_refl _)
  · rw [show (([] : List S_Field), (0 : Int)) = (([] : List S_Field), ((0 : Nat) : Int)) from rfl, key, filter_fold]; rfl
  · have hlt := lt_of_get hx
    refine .inl ⟨_, rfl, ?_, ?_⟩
    · unfold intarsiaref04_Remove_b1
      dsimp only
      rw [dlt_true hlt, cond_true, idx_at hx, Option.bind_some, refSame_eq (h x (List.mem_of_getElem? hx)).name hn, Option.bind_some, wrap_inc hlt (mul32 hl), app_ok (by simp; omega) (by omega), Option.bind_some]
      show _ = some (Sum.inl ((bif !isN n x then _ else _), _))
      unfold isN
      cases (lower x.Name == lower n) <;> rfl
    · cases isN n x <;> simp <;> omega
  · unfold intarsiaref04_Remove_b1
    dsimp only
    rw [dlt_self]; rfl
theorem refAdd_eq {l : List S_Field} {f : S_Field} (h : FRow l) (hf : FSmall f) : intarsiaref04_Add l f = some (addB l f) := by
  unfold intarsiaref04_Add addB
  have hl := h.len
  rw [refRight_eq (big (by omega)) h.small, Option.bind_some, gcall_val (fun _ => refMay_eq hf), Option.bind_some, app_ok (by simp; omega) (by omega), Option.bind_some, app_ok (by simp; omega) (by omega), Option.bind_some]
  have e : ((l.length : Int) == (40 : Int)) = (l.length == 40) := by rw [Bool.eq_iff_iff, beq_iff_eq, beq_iff_eq]; omega
  rw [e]
  cases rightB l <;> cases mayB f <;> cases (l.length == 40) <;> rfl
theorem refRem2 {l : List S_Field} (h : FRow l) : (intarsiaref04_Remove l [99, 111, 110, 116, 101, 110, 116, 45, 108, 101, 110, 103, 116, 104]) = some (l.filter fun f => !isN nCL' f) ∧ (intarsiaref04_Remove (l.filter fun f => !isN nCL' f) [116, 114, 97, 110, 115, 102, 101, 114, 45, 101, 110, 99, 111, 100, 105, 110, 103]) = some (rest l) := by
  have hl := h.len
  refine ⟨refRemove_eq (by omega) h.small (big (by decide)), ?_⟩
  have h2 := h.filter fun f => !isN nCL' f
  have hl2 := h2.len
  exact refRemove_eq (by omega) h2.small (big (by decide))
theorem Digits_eq (n : Nat) (hn : n < 18446744073709551616) : intarsiaref02_Digits (n : Int) 10 = some (Lib.decDigits n) := by
  unfold intarsiaref02_Digits
  have key := loopO_rec (body := intarsiaref02_Digits_b1 10) digV (fun x => 2 * x.1.toNat + (bif x.2 == ([] : Bytes) then 1 else 0)) (fun x => 0 ≤ x.1 ∧ x.1 < 18446744073709551616 ∧ x.1.toNat * 10 ^ x.2.length < 18446744073709551616) (fun x hx => ?_) ((n : Int), ([] : Bytes)) ⟨by simp, by simp; omega, by simp; omega⟩
  · rw [key, Option.bind_some]
    unfold digV
    have e : (bif decide ((n : Int) > 0) then true else (([] : Bytes) == ([] : Bytes))) = true := by cases decide ((n : Int) > 0) <;> rfl
    dsimp only
    rw [e, cond_true, List.append_nil, Int.toNat_natCast]
  · obtain ⟨x, s⟩ := x
    dsimp only at hx ⊢
    obtain ⟨h0, h1, h2⟩ := hx
    obtain ⟨k, rfl⟩ : ∃ k : Nat, x = k := ⟨x.toNat, by omega⟩
    rw [Int.toNat_natCast] at h2
    unfold intarsiaref02_Digits_b1 digV
    dsimp only
    cases hc : (bif decide ((k : Int) > 0) then true else (s == ([] : Bytes))) with
    | false => exact .inr rfl
    | true =>
      refine .inl ⟨(((k / 10 : Nat) : Int), [UInt8.ofNat (48 + k % 10)] ++ s), ?_, ⟨by show (0 : Int) ≤ ((k / 10 : Nat) : Int); omega, by show ((k / 10 : Nat) : Int) < _; omega, ?_⟩, ?_, ?_⟩
      · have hm : (k : Int).tmod 10 = ((k % 10 : Nat) : Int) := by rw [Int.tmod_eq_emod_of_nonneg (by omega)]; rfl
        have hd : (k : Int).tdiv 10 = ((k / 10 : Nat) : Int) := by rw [Int.tdiv_eq_ediv_of_nonneg (by omega)]; rfl
        have hs : s.length < 20 := by
          by_cases hk : k = 0
          · subst hk
            have : s = [] := by simpa using hc
            subst this; simp
          · refine Nat.lt_of_not_le fun hle => ?_
            have : 10 ^ 20 ≤ 10 ^ s.length := Nat.pow_le_pow_right (by omega) hle
            have : 1 * 10 ^ s.length ≤ k * 10 ^ s.length := Nat.mul_le_mul_right _ (by omega)
            have e20 : (10 : Nat) ^ 20 = 100000000000000000000 := by kernel_rfl
            omega
        have hw : IntKind.u64.wrap ((k % 10 : Nat) : Int) = ((k % 10 : Nat) : Int) := wrap_u64 (by omega) (by omega)
        rw [cond_true, hm, chk_pos ⟨rfl, hw⟩, chk_pos ⟨rfl, hw⟩, dig_slc _ (Nat.mod_lt _ (by omega)), Option.bind_some, cat_ok (by simp; unfold maxLen; omega), Option.bind_some, chk_pos (show ((10 : Int) == 0) = false from rfl), hd, wrap_u64 (by omega) (by omega)]
      · show ((k / 10 : Nat) : Int).toNat * 10 ^ ([UInt8.ofNat (48 + k % 10)] ++ s).length < _
        rw [Int.toNat_natCast, List.length_append, List.length_singleton, Nat.add_comm 1, Nat.pow_succ]
        have : k / 10 * (10 ^ s.length * 10) = (k / 10 * 10) * 10 ^ s.length := by rw [Nat.mul_comm (10 ^ s.length) 10, Nat.mul_assoc]
        rw [this]
        exact Nat.lt_of_le_of_lt (Nat.mul_le_mul_right _ (Nat.div_mul_le_self k 10)) h2
      · show 2 * ((k / 10 : Nat) : Int).toNat + _ < 2 * ((k : Nat) : Int).toNat + _
        rw [Int.toNat_natCast, Int.toNat_natCast]
        have e1 : (([UInt8.ofNat (48 + k % 10)] ++ s) == ([] : Bytes)) = false := rfl
        rw [e1, cond_false]
        by_cases hk : k = 0
        · subst hk
          have : s = [] := by simpa using hc
          subst this; simp
        · cases (s == ([] : Bytes)) <;> simp <;> omega
      · rw [cond_true, Int.toNat_natCast]
        by_cases h10 : k < 10
        · have e2 : k / 10 = 0 := by omega
          rw [e2]
          have e3 : k % 10 = k := by omega
          rw [Lib.decDigits, dif_pos h10, e3]
          rfl
        · have e3 : decide (((k / 10 : Nat) : Int) > 0) = true := by simp; omega
          rw [e3, cond_true, cond_true, Int.toNat_natCast]
          conv => lhs; rw [Lib.decDigits, dif_neg h10]
          rw [List.append_assoc]
theorem Dec_eq (n : Nat) (hn : n < 18446744073709551616) : number_Dec (n : Int) = some (Lib.decDigits n) := by
  unfold number_Dec strconv_FmtU strconv_FormatUint
  rw [show ((10 : Int) == 10) = true from rfl, cond_true, chk_pos ⟨rfl, by omega, by omega⟩]
  rfl
theorem Remove_eq {l : List S_Field} {n : Bytes} (hl : l.length ≤ 1000000) (h : ∀ f, f ∈ l → FSmall f) (hn : n.length ≤ maxLen) : table_Remove l n = some (l.filter fun f => !isN n f) := by
  unfold table_Remove table_named
  rw [Option.bind_some, keep_eq (fun f => !isN n f) (fun f hf => ?_) hl, Option.bind_some]
  unfold table_Remove_1 table_named_1
  dsimp only
  rw [Same_eq (h f hf).name hn]
  rfl
theorem rem_rest {l : List S_Field} (h : FRow l) : (table_Remove l nCL) = some (l.filter fun f => !isN nCL' f) ∧ (table_Remove (l.filter fun f => !isN nCL' f) nTE) = some (rest l) := by
  have hl := h.len
  have h2 := h.filter fun f => !isN nCL' f
  have hl2 := h2.len
  refine ⟨?_, ?_⟩
  · rw [Remove_eq (by omega) h.small (big (by decide)), isN_low (show lower nCL = lower nCL' by kernel_rfl)]
  · rw [Remove_eq (by omega) h2.small (big (by decide)), isN_low (show lower nTE = lower nTE' by kernel_rfl)]; rfl
theorem With_eq {l : List S_Field} {b : S_Body} (h : FRow l) : frame_With l b = some (withB l b) := by
  have hl := h.len
  unfold frame_With withB
  rw [Right_eq (big (by omega)) h.small, Option.bind_some]
  cases hr : rightB l with
  | false => rfl
  | true =>
    cases h1 : decide (b.Size < 0) with
    | true => rfl
    | false =>
      cases h2 : decide (b.Size > 20000) with
      | true => rfl
      | false =>
        cases h3 : decide (b.Kind < 0) with
        | true => rfl
        | false =>
          cases h4 : decide (b.Kind > 3) with
          | true => rfl
          | false =>
            simp only [Bool.not_true, cond_false, cond_true, Bool.or_false, Bool.false_or]
            have hs0 : 0 ≤ b.Size := by simpa using h1
            have hs1 : b.Size ≤ 20000 := by simpa using h2
            have r1 := (rem_rest h).1
            have r2 := (rem_rest h).2
            unfold nCL at r1
            unfold nTE at r2
            rw [r1, Option.bind_some, r2, Option.bind_some]
            have hf := fld_small b hs1
            unfold fld at hf ⊢
            cases hk : (b.Kind == 1) with
            | true =>
              rw [hk] at hf
              simp only [cond_true] at hf ⊢
              rw [wrap_u64 hs0 (by omega)]
              have e : b.Size = ((b.Size.toNat : Nat) : Int) := by omega
              rw [e, Dec_eq _ (by omega), Option.bind_some, Int.toNat_natCast]
              have ha := Add_eq (rest_row h) hf
              unfold nCL at ha
              rw [ha]
              rfl
            | false =>
              rw [hk] at hf
              simp only [cond_false] at hf ⊢
              cases hk2 : (b.Kind == 2) with
              | true =>
                simp only [cond_true]
                have ha := Add_eq (rest_row h) hf
                unfold nTE chunked at ha
                rw [ha]
                rfl
              | false => rfl
theorem refWith_eq {l : List S_Field} {b : S_Body} (h : FRow l) : intarsiaref09_With l b = some (withB l b) := by
  have hl := h.len
  unfold intarsiaref09_With withB
  rw [refRight_eq (big (by omega)) h.small, Option.bind_some]
  cases hr : rightB l with
  | false => rfl
  | true =>
    cases h1 : decide (b.Size < 0) with
    | true => rfl
    | false =>
      cases h2 : decide (b.Size > 20000) with
      | true => rfl
      | false =>
        cases h3 : decide (b.Kind < 0) with
        | true => rfl
        | false =>
          cases h4 : decide (b.Kind > 3) with
          | true => rfl
          | false =>
            simp only [Bool.not_true, cond_false, cond_true, Bool.or_false, Bool.false_or]
            have hs0 : 0 ≤ b.Size := by simpa using h1
            have hs1 : b.Size ≤ 20000 := by simpa using h2
            rw [(refRem2 h).1, Option.bind_some, (refRem2 h).2, Option.bind_some]
            have hf := fld_small b hs1
            unfold fld at hf ⊢
            cases hk : (b.Kind == 1) with
            | true =>
              rw [hk] at hf
              simp only [cond_true] at hf ⊢
              rw [wrap_u64 hs0 (by omega)]
              have e : b.Size = ((b.Size.toNat : Nat) : Int) := by omega
              rw [e, Digits_eq _ (by omega), Option.bind_some, Int.toNat_natCast]
              have ha := refAdd_eq (rest_row h) hf
              unfold nCL at ha
              rw [ha]
              rfl
            | false =>
              rw [hk] at hf
              simp only [cond_false] at hf ⊢
              cases hk2 : (b.Kind == 2) with
              | true =>
                simp only [cond_true]
                have ha := refAdd_eq (rest_row h) hf
                unfold nTE chunked at ha
                rw [ha]
                rfl
              | false => rfl
theorem Print_eq {s : S_Start} (h : SSm s) : start_Print s = some (bif startB s then (printB s, 0) else ([], 1)) := by
  unfold start_Print
  rw [sRight_eq h.small, Option.bind_some]
  cases hs : startB s with
  | false => rfl
  | true =>
    have hm := startB_minor hs
    have hc := startB_code hs
    have hd : number_Dec (IntKind.u64.wrap s.Minor) = some (Lib.decDigits s.Minor.toNat) := by
      rw [wrap_u64 (by omega) (by omega), show s.Minor = (s.Minor.toNat : Int) by omega]
      exact Dec_eq _ (by omega)
    rw [hd, Option.bind_some, cat_ok (by have := digits_len (n := s.Minor.toNat) (by omega); unfold maxLen; show 7 + _ ≤ _; omega), Option.bind_some]
    have hv := ver_len hm
    show (bif (!true) then _ else (bif s.Code == 0 then (strings_Join [s.Method, s.Target, ver s.Minor.toNat] [32]).bind _ else (number_Dec (IntKind.u64.wrap s.Code)).bind fun x5 => (strings_Join [ver s.Minor.toNat, x5, s.Reason] [32]).bind _)) = some (printB s, 0)
    unfold printB
    cases hc0 : (s.Code == 0) with
    | true =>
      rw [cond_true, cond_true]
      unfold strings_Join
      rw [join3, chk_pos ⟨by show 3 ≤ _; omega, by have := h.method; have := h.target; simp; omega⟩]
      rfl
    | false =>
      rw [cond_false, cond_false]
      have hc' : 100 ≤ s.Code ∧ s.Code ≤ 599 := by rcases hc with h | h; · rw [h] at hc0; cases hc0
                                                   · exact h
      have hd2 : number_Dec (IntKind.u64.wrap s.Code) = some (Lib.decDigits s.Code.toNat) := by
        rw [wrap_u64 (by omega) (by omega)]
        have := Dec_eq s.Code.toNat (by omega)
        rwa [show ((s.Code.toNat : Nat) : Int) = s.Code by omega] at this
      rw [hd2, Option.bind_some]
      unfold strings_Join
      have := digits_len (n := s.Code.toNat) (by omega)
      rw [join3, chk_pos ⟨by show 3 ≤ _; omega, by have := h.reason; simp; omega⟩]
      rfl
theorem refDigits {n : Int} (h : 0 ≤ n) (h' : n ≤ 1000000) : intarsiaref02_Digits (IntKind.u64.wrap n) (10 : Int) = some (Lib.decDigits n.toNat) := by
  rw [wrap_u64 h (by omega)]
  have := Digits_eq n.toNat (by omega)
  rwa [show ((n.toNat : Nat) : Int) = n by omega] at this
theorem refPrint_eq {s : S_Start} (h : SSm s) (hs : startB s = true) : intarsiaref06_Print s = some (printB s) := by
  unfold intarsiaref06_Print printB
  have hm := startB_minor hs
  have hc := startB_code hs
  have hv := ver_len hm
  have h1 := h.method
  have h2 := h.target
  have h3 := h.reason
  have h4 := digits_len (n := s.Minor.toNat) (by omega)
  rw [refDigits (by omega) (by omega), Option.bind_some, cat_ok (by unfold maxLen; show 7 + _ ≤ _; omega), Option.bind_some]
  rw [show ([72, 84, 84, 80, 47, 49, 46] : Bytes) ++ Lib.decDigits s.Minor.toNat = ver s.Minor.toNat from rfl]
  cases hb : (s.Code == 0) with
  | true =>
    rw [cond_true, cond_true, cat_ok (by unfold maxLen; simp; omega), Option.bind_some, cat_ok (by unfold maxLen; simp; omega), Option.bind_some, cat_ok (by unfold maxLen; simp; omega), Option.bind_some,
      cat_ok (s := s.Method ++ [32] ++ s.Target ++ [32]) (t := ver s.Minor.toNat) (by unfold maxLen; simp; omega)]
    simp [ver]
  | false =>
    have h5 := digits_len (n := s.Code.toNat) (by omega)
    rw [cond_false, cond_false, cat_ok (s := ver s.Minor.toNat) (t := [32]) (by unfold maxLen; simp; omega), Option.bind_some, refDigits (by omega) (by omega), Option.bind_some, cat_ok (by unfold maxLen; simp; omega), Option.bind_some, cat_ok (by unfold maxLen; simp; omega), Option.bind_some,
      cat_ok (by unfold maxLen; simp; omega)]
    simp [ver]
end Go.Proofs.YtpionnihpibglaaGreatDoor
namespace Go.Proofs.YtpionnihpibglaaGreatDoor
open Go Go.Pm
set_option linter.unusedSimpArgs false
set_option linter.unusedVariables false
set_option maxRecDepth 100000
/-! ### Hexadecimal digits -/
def digs36 : Bytes := [48, 49, 50, 51, 52, 53, 54, 55, 56, 57, 97, 98, 99, 100, 101, 102, 103, 104, 105, 106, 107, 108, 109, 110, 111, 112, 113, 114, 115, 116, 117, 118, 119, 120, 121, 122]
theorem digs_at {k : Nat} (h : k < 16) : digs36[k]? = some (hexC k) := by
  have := hexC_all (p := fun k c => digs36[k]? == some c) (by kernel_rfl) h
  exact eq_of_beq this
theorem and15 (m : Nat) (h : m < 18446744073709551616) : bits .and .u64 (m : Int) (IntKind.u64.wrap ((IntKind.u64.wrap (16 : Int)) - (1 : Int))) = ((m % 16 : Nat) : Int) := by
  have e : IntKind.u64.wrap ((IntKind.u64.wrap (16 : Int)) - (1 : Int)) = ((15 : Nat) : Int) := by decide
  rw [e, bits_and_u64_nat m 15 h (by omega), show (15 : Nat) = 2 ^ 4 - 1 from rfl, Nat.and_two_pow_sub_one_eq_mod]
theorem u8_back (x : UInt8) : u8 ((x.toNat : Nat) : Int) = x := by unfold u8; simp
theorem set_drop {L : Bytes} {p : Nat} {x : UInt8} (h : p < L.length) : (L.set p x).drop p = x :: L.drop (p + 1) := by
  rw [List.drop_eq_getElem_cons (by simpa using h), List.drop_set_of_lt (by omega)]
  simp
noncomputable def fmtK (m p : Int) (L : Bytes) (x45 : UInt8) : Option ((Int × Int × (List UInt8)) ⊕ (Int × Int × (List UInt8))) :=
      chk (0 ≤ (IntKind.i64.wrap (p - (1 : Int))) ∧ (IntKind.i64.wrap (p - (1 : Int))) < 65) <|
      (seti L (IntKind.i64.wrap (p - (1 : Int))) (u8 (x45.toNat : Int))).bind fun x47 =>
      chk ((0 ≤ (IntKind.u64.wrap (4 : Int)) ∧ (IntKind.u64.wrap (4 : Int)) ≤ (IntKind.u64.bits : Int)) ∧ IntKind.u64.wrap (m / 2 ^ (IntKind.u64.wrap (4 : Int)).toNat) = m / 2 ^ (IntKind.u64.wrap (4 : Int)).toNat) <|
      some (.inl ((m / 2 ^ (IntKind.u64.wrap (4 : Int)).toNat), (IntKind.i64.wrap (p - (1 : Int))), x47))
theorem fmt_body (m p : Int) (L : Bytes) : strconv_formatBits_b3 16 4 (m, p, L) = bif (decide (m ≥ (IntKind.u64.wrap (16 : Int)))) then (idx digs36 (bits .and .u64 m (IntKind.u64.wrap ((IntKind.u64.wrap (16 : Int)) - (1 : Int))))).bind (fmtK m p L) else some (.inr (m, p, L)) := rfl
theorem fmt_loop : ∀ (f m p : Nat) (L : Bytes), L.length = 65 → m < 16 ^ (f + 1) → m < 1000000000 → f + 1 ≤ p → p ≤ 65 →
    ∃ (m' p' : Nat) (L' : Bytes), loopO (strconv_formatBits_b3 16 4) ((m : Int), (p : Int), L) = some ((m' : Int), (p' : Int), L') ∧ m' < 16 ∧ 1 ≤ p' ∧ p' ≤ 65 ∧ L'.length = 65 ∧ hexC m' :: L'.drop p' = (hexL (f + 1) m).map hexC ++ L.drop p
  | f, m, p, L, hL, hm, hm9, hp, hp2 => by
    by_cases h16 : m < 16
    · refine ⟨m, p, L, ?_, h16, by omega, hp2, hL, ?_⟩
      · rw [loopO_eq]
        unfold strconv_formatBits_b3
        dsimp only
        rw [decide_eq_false (by rw [u64_id (by omega) (by omega)]; omega), cond_false]
      · unfold hexL
        rw [decide_eq_true h16, cond_true]; rfl
    · have hf : ∃ g, f = g + 1 := by
        cases f with
        | zero => simp at hm; omega
        | succ g => exact ⟨g, rfl⟩
      obtain ⟨g, rfl⟩ := hf
      have hx := digs_at (k := m % 16) (Nat.mod_lt _ (by omega))
      have hlt : p - 1 < L.length := by omega
      obtain ⟨m', p', L', h1, h2, h3, h4, h5, h6⟩ := fmt_loop g (m / 16) (p - 1) (L.set (p - 1) (hexC (m % 16))) (by simpa using hL) (by rw [Nat.pow_succ] at hm; omega) (by omega) (by omega) (by omega)
      refine ⟨m', p', L', ?_, h2, h3, h4, h5, ?_⟩
      · have e1 : IntKind.i64.wrap ((p : Int) - (1 : Int)) = ((p - 1 : Nat) : Int) := by rw [wrap_i64 (by omega) (by omega)]; omega
        have e2 : IntKind.u64.wrap (4 : Int) = 4 := by decide
        have e3 : (m : Int) / 2 ^ (4 : Int).toNat = ((m / 16 : Nat) : Int) := by show (m : Int) / 16 = _; omega
        have hi : idx digs36 ((m % 16 : Nat) : Int) = some (hexC (m % 16)) := idx_at hx
        have hst : fmtK (m : Int) (p : Int) L (hexC (m % 16)) = some (.inl (((m / 16 : Nat) : Int), ((p - 1 : Nat) : Int), L.set (p - 1) (hexC (m % 16)))) := by
          unfold fmtK
          rw [e1, chk_pos (by omega), u8_back, show seti L ((p - 1 : Nat) : Int) (hexC (m % 16)) = some (L.set (p - 1) (hexC (m % 16))) by unfold seti; rw [chk_pos (by omega)]; rfl, Option.bind_some, e2, e3, chk_pos ⟨⟨by omega, by decide⟩, u64_id (by omega) (by omega)⟩]
        rw [loopO_eq, fmt_body, decide_eq_true (by rw [u64_id (by omega) (by omega)]; omega), cond_true, and15 m (by omega), hi, Option.bind_some, hst]
        exact h1
      · rw [h6, set_drop hlt, show p - 1 + 1 = p by omega]
        have : hexL (g + 1 + 1) m = hexL (g + 1) (m / 16) ++ [m % 16] := by rw [hexL, decide_eq_false h16, cond_false]
        rw [this]; simp
theorem Fmt16_eq {n : Nat} (h : n ≤ 20000) : strconv_FmtU (n : Int) (16 : Int) = some (hexD n) := by
  obtain ⟨m, p, L, h1, h2, h3, h4, h5, h6⟩ := fmt_loop 4 n 65 (List.replicate 65 (0 : UInt8)) (by simp) (by omega) (by omega) (by omega) (by omega)
  have hz : math_bits_TrailingZeros (IntKind.u64.wrap (16 : Int)) = some 4 := by kernel_rfl
  have hpw : strconv_isPowerOfTwo (16 : Int) = some true := by kernel_rfl
  have e1 : IntKind.i64.wrap ((p : Int) - (1 : Int)) = ((p - 1 : Nat) : Int) := by rw [wrap_i64 (by omega) (by omega)]; omega
  have hi : idx digs36 (m : Int) = some (hexC m) := idx_at (digs_at h2)
  have hs : seti L ((p - 1 : Nat) : Int) (hexC m) = some (L.set (p - 1) (hexC m)) := by unfold seti; rw [chk_pos (by omega)]; rfl
  have hd : (L.set (p - 1) (hexC m)).drop (p - 1) = hexD n := by
    rw [set_drop (by omega), show p - 1 + 1 = p by omega, h6]
    unfold hexD
    simp
  have hlen : ((65 : Int).toNat - ((p - 1 : Nat) : Int).toNat) = (hexD n).length := by
    rw [← hd]; simp; omega
  have h1' : loopO (strconv_formatBits_b3 16 4) ((n : Int), (65 : Int), List.replicate 65 (0 : UInt8)) = some ((m : Int), (p : Int), L) := h1
  have inner : ((idx digs36 (m : Int)).bind fun x49 => chk (0 ≤ (IntKind.i64.wrap ((p : Int) - (1 : Int))) ∧ (IntKind.i64.wrap ((p : Int) - (1 : Int))) < 65) ((seti L (IntKind.i64.wrap ((p : Int) - (1 : Int))) (u8 (x49.toNat : Int))).bind fun x51 => some ((IntKind.i64.wrap ((p : Int) - (1 : Int))), x51))) = some (((p - 1 : Nat) : Int), L.set (p - 1) (hexC m)) := by
    rw [hi, Option.bind_some, e1, chk_pos (by omega), u8_back, hs, Option.bind_some]
  have hb : strconv_formatBits ([] : List UInt8) (n : Int) (16 : Int) false false = some (([] : List UInt8), hexD n) := by
    unfold strconv_formatBits
    rw [show (bif (bif decide ((16 : Int) < (2 : Int)) then true else ((16 : Int) == (10 : Int))) then true else decide ((16 : Int) > (36 : Int))) = false from rfl, cond_false, cond_false, hpw, Option.bind_some, cond_true, hz, Option.bind_some, h1', Option.bind_some]
    refine (congrArg (fun o : Option (Int × Bytes) => o.bind _) inner).trans ?_
    show (chk (0 ≤ ((p - 1 : Nat) : Int) ∧ ((p - 1 : Nat) : Int) < (65 : Int) ∧ (65 : Int) ≤ (65 : Int)) (chk ((0 + ((p - 1 : Nat) : Int).toNat * 1) + ((65 : Int).toNat - ((p - 1 : Nat) : Int).toNat) ≤ (L.set (p - 1) (hexC m)).length) (some (([] : List UInt8), (((L.set (p - 1) (hexC m)).drop (0 + ((p - 1 : Nat) : Int).toNat * 1)).take ((65 : Int).toNat - ((p - 1 : Nat) : Int).toNat)))))) = _
    rw [chk_pos (by omega), chk_pos (by simp; omega), hlen, show 0 + ((p - 1 : Nat) : Int).toNat * 1 = p - 1 by omega, hd, List.take_of_length_le (Nat.le_refl _)]
  unfold strconv_FmtU
  rw [show ((16 : Int) == 10) = false from rfl, cond_false]
  unfold fu16 fu16i
  rw [show ((16 : Int) == 10) = false from rfl, cond_false, hb]
  rfl
/-! ### What is written -/
theorem Encode_eq {b : Bytes} (h : b.length ≤ 20000) : chunk_Encode b = some (encB0 b) := by
  unfold chunk_Encode encB0
  cases hn : (b == ([] : Bytes)) with
  | true => rfl
  | false =>
    have hl := hexD_len h
    rw [cond_false, cond_false]
    unfold number_Hex
    rw [u64_id (by omega) (by omega), Fmt16_eq h, Option.bind_some, Option.bind_some, cat_ok (by unfold maxLen; simp; omega), Option.bind_some, cat_ok (by unfold maxLen; simp; omega), Option.bind_some, cat_ok (by unfold maxLen; simp; omega), Option.bind_some]
    simp
theorem encB0_len {b : Bytes} (h : b.length ≤ 20000) : (encB0 b).length ≤ b.length + 9 := by
  unfold encB0
  cases hn : (b == ([] : Bytes)) with
  | true => simp
  | false =>
    have hl := hexD_len h
    rw [cond_false]
    simp; omega
def printL (l : List S_Field) : Bytes × Int := bif rightB l then (bif decide ((textOf l).length > 4000) then ([], 2) else (textOf l, 0)) else ([], 1)
theorem fold_print : ∀ (l : List S_Field) (acc : Bytes), foldE (ρ := Bytes) (fun acc f => .inl (acc ++ (f.Name ++ [58, 32] ++ f.Value ++ [13, 10]))) (fun acc => acc) l acc = acc ++ textOf l
  | [], acc => by simp [foldE, textOf]
  | f :: l, acc => by
    rw [foldE_cons]
    dsimp only
    rw [fold_print l, textOf_cons]
    unfold lineOf
    simp
theorem Print7_eq {l : List S_Field} (h : FRow l) : head_Print l = some (printL l) := by
  have hl := h.len
  unfold head_Print printL
  rw [Right_eq (big (by omega)) h.small, Option.bind_some]
  cases hr : rightB l with
  | false => rfl
  | true =>
    have h40 := rightB_len hr
    have key := loop_list (body := head_Print_b1 l) l (fun i (acc : Bytes) => ((i : Int), acc)) (fun acc f => (.inl (acc ++ (f.Name ++ [58, 32] ++ f.Value ++ [13, 10])) : Bytes ⊕ Bytes)) (fun acc => acc) (fun i acc => acc.length ≤ i * 300000 ∧ i ≤ 40) (fun i b x hx hi => ?_) (fun b hi => ?_) [] ⟨Nat.zero_le _, by omega⟩
    rotate_left
    · have hlt := lt_of_get hx
      obtain ⟨h1, h2⟩ := h.each x (List.mem_of_getElem? hx)
      refine .inl ⟨_, rfl, ?_, by simp; omega, by omega⟩
      unfold head_Print_b1
      dsimp only
      rw [dlt_true hlt, cond_true, idx_at hx, Option.bind_some, cat_ok (by unfold maxLen; simp; omega), Option.bind_some, cat_ok (by unfold maxLen; simp; omega), Option.bind_some, cat_ok (by unfold maxLen; simp; omega), Option.bind_some,
        wrap_inc hlt (by unfold maxLen; omega)]
      unfold bcat
      rw [if_pos (by simp; omega), Option.bind_some]
    · unfold head_Print_b1
      dsimp only
      rw [dlt_self]; rfl
    have e : loopO (head_Print_b1 l) ((0 : Int), ([] : Bytes)) = some (textOf l) := by
      have := fold_print l []
      rw [List.nil_append] at this
      rw [← this]; exact key
    have ht : (textOf l).length ≤ 40 * 300000 := by
      have := h.each
      clear e key hr
      have : ∀ m : List S_Field, (∀ f, f ∈ m → f ∈ l) → (textOf m).length ≤ m.length * 300000 := by
        intro m
        induction m with
        | nil => intro _; simp [textOf]
        | cons f m ih =>
          intro hm
          have h1 := ih fun g hg => hm g (List.mem_cons_of_mem _ hg)
          obtain ⟨h2, h3⟩ := h.each f (hm f (List.mem_cons_self ..))
          rw [textOf_cons]
          unfold lineOf
          simp
          omega
      exact Nat.le_trans (this l (fun _ h => h)) (Nat.mul_le_mul_right _ h40)
    rw [show (!true) = false from rfl, cond_false, e, Option.bind_some]
    have hb : bcat (textOf l) [] = some (textOf l) := by unfold bcat; rw [if_pos (by simp; omega), List.append_nil]
    rw [hb, Option.bind_some, Option.bind_some, cond_true]
    have : decide (((textOf l).length : Int) > (4000 : Int)) = decide ((textOf l).length > 4000) := by rw [decide_eq_decide]; omega
    rw [this]
    cases decide ((textOf l).length > 4000) <;> rfl
def bodOf (m : S_Message) (c : Bool) : S_Body := bif c then B 2 0 else B 1 (m.Body.length : Int)
def payOf (m : S_Message) (c : Bool) : Bytes := bif c then encB0 m.Body ++ chEnd else m.Body
def writeB (m : S_Message) (c : Bool) : Bytes × Int :=
  bif (!startB m.Start) || ((!rightB m.Fields) || decide (m.Body.length > 20000)) then ([], 1) else
  bif (withB m.Fields (bodOf m c)).2 != 0 then ([], (withB m.Fields (bodOf m c)).2) else
  bif decide ((textOf (withB m.Fields (bodOf m c)).1).length > 4000) then ([], 2) else
  (headOf (printB m.Start) (withB m.Fields (bodOf m c)).1 ++ payOf m c, 0)
structure MSm (m : S_Message) : Prop where
  start : SSm m.Start
  row : FRow m.Fields
  body : m.Body.length ≤ 1000000
theorem made_row {l x : List S_Field} {b : S_Body} (h : Made l b x) (hl : FRow l) : FRow x := ⟨by have := h.len; omega, fun f hf => by
  rcases h.mem f hf with h1 | h1
  · exact hl.each f h1
  · subst h1
    have h2 := digits_le (n := b.Size.toNat) (by have := h.size1; omega)
    unfold fld
    cases (b.Kind == 1) with
    | true => exact ⟨by show nCL.length ≤ _; decide, by show (Lib.decDigits _).length ≤ _; omega⟩
    | false => exact ⟨by show nTE.length ≤ _; decide, by show chunked.length ≤ _; decide⟩⟩
theorem Write_eq {m : S_Message} (h : MSm m) (c : Bool) : wire_Write m c = some (writeB m c) := by
  have hrow := h.row
  have hlf := hrow.len
  have hbl := h.body
  unfold wire_Write writeB
  rw [Print_eq h.start, Option.bind_some]
  cases hs : startB m.Start with
  | false => rfl
  | true =>
    rw [cond_true]
    show ((gcall true (table_Right m.Fields)).bind _) = _
    rw [gcall_tt rfl, Right_eq (big (by omega)) hrow.small, Option.bind_some]
    have hp := printB_len h.start hs
    have hm1 := h.start.method
    have hm2 := h.start.target
    have hm3 := h.start.reason
    cases hr : rightB m.Fields with
    | false => rfl
    | true =>
      show (bif (bif (bif ((0 : Int) != 0) then true else (!true)) then true else decide ((m.Body.length : Int) > 20000)) then _ else _) = some (bif ((!true) || ((!true) || decide (m.Body.length > 20000))) then _ else _)
      have e : decide ((m.Body.length : Int) > 20000) = decide (m.Body.length > 20000) := by rw [decide_eq_decide]; omega
      rw [e]
      cases hb : decide (m.Body.length > 20000) with
      | true => rfl
      | false =>
        have hb2 : m.Body.length ≤ 20000 := by simpa using hb
        show (bif c then _ else _) = some (bif (withB m.Fields (bodOf m c)).2 != 0 then _ else _)
        have fin : ∀ (pay : Bytes) (b : S_Body), pay.length ≤ 30000 → ((frame_With m.Fields b).bind fun x6 =>
            bif ((x6.2) != (0 : Int)) then some (([] : Bytes), (x6.2)) else
            (head_Print (x6.1)).bind fun x7 =>
            bif ((x7.2) != (0 : Int)) then some (([] : Bytes), (x7.2)) else
            (cat (printB m.Start) ([13, 10] : Bytes)).bind fun x8 =>
            (cat x8 (x7.1)).bind fun x9 =>
            (cat x9 ([13, 10] : Bytes)).bind fun x10 =>
            (cat x10 pay).bind fun x11 =>
            some (x11, (0 : Int))) = some (bif (withB m.Fields b).2 != 0 then ([], (withB m.Fields b).2) else bif decide ((textOf (withB m.Fields b).1).length > 4000) then ([], 2) else (headOf (printB m.Start) (withB m.Fields b).1 ++ pay, 0)) := by
          intro pay b hpay
          rw [With_eq hrow, Option.bind_some]
          rcases withB_cases m.Fields b with ⟨h1, h2⟩ | ⟨h1, h2⟩
          · rw [h2]; rfl
          · have hrow2 := made_row h2 hrow
            rw [h1, show ((0 : Int) != 0) = false from rfl, cond_false, cond_false, Print7_eq hrow2, Option.bind_some]
            unfold printL
            rw [h2.right, cond_true]
            cases ht : decide ((textOf (withB m.Fields b).1).length > 4000) with
            | true => rfl
            | false =>
              have ht2 : (textOf (withB m.Fields b).1).length ≤ 4000 := by simpa using ht
              rw [cond_false, show ((0 : Int) != 0) = false from rfl, cond_false, cond_false]
              rw [cat_ok (by unfold maxLen; simp; omega), Option.bind_some, cat_ok (by unfold maxLen; simp; omega), Option.bind_some, cat_ok (by unfold maxLen; simp; omega), Option.bind_some, cat_ok (by unfold maxLen; simp; omega), Option.bind_some]
              unfold headOf
              simp
        cases c with
        | false => exact fin m.Body (B 1 (m.Body.length : Int)) (by omega)
        | true =>
          rw [cond_true, Encode_eq hb2, Option.bind_some]
          have hel := encB0_len hb2
          show ((cat (encB0 m.Body) chEnd).bind _) = _
          rw [cat_ok (by unfold maxLen; simp [chEnd]; omega), Option.bind_some]
          exact fin (encB0 m.Body ++ chEnd) (B 2 0) (by simp [chEnd]; omega)
end Go.Proofs.YtpionnihpibglaaGreatDoor
namespace Go.Proofs.YtpionnihpibglaaGreatDoor
open Go Go.Pm
set_option linter.unusedSimpArgs false
set_option linter.unusedVariables false
set_option maxRecDepth 100000
/-! ### The reference's writing -/
def digsR : Bytes := [48, 49, 50, 51, 52, 53, 54, 55, 56, 57, 97, 98, 99, 100, 101, 102]
theorem slc16 {k : Nat} (h : k < 16) : slc digsR (k : Int) (IntKind.u64.wrap ((k : Int) + (1 : Int))) = some [hexC k] := by
  have e : IntKind.u64.wrap ((k : Int) + (1 : Int)) = ((k + 1 : Nat) : Int) := by rw [u64_id (by omega) (by omega)]; omega
  have hd : digsR.length = 16 := rfl
  rw [e]
  unfold slc
  rw [chk_pos (by omega), show (((k + 1 : Nat) : Int).toNat - ((k : Nat) : Int).toNat) = 1 by omega, Int.toNat_natCast]
  have := hexC_all (p := fun k c => (digsR.drop k).take 1 == [c]) (by kernel_rfl) h
  rw [eq_of_beq this]
theorem dig16_loop : ∀ (f k : Nat) (s : Bytes), k < 16 ^ (f + 1) → k < 1000000000 → s.length + f ≤ 100 → (0 < k ∨ s = []) → loopO (intarsiaref02_Digits_b1 16) ((k : Int), s) = some ((hexL (f + 1) k).map hexC ++ s)
  | f, k, s, hk, hk9, hs, h0 => by
    have hm : (k : Int).tmod 16 = ((k % 16 : Nat) : Int) := by rw [Int.tmod_eq_emod_of_nonneg (by omega)]; rfl
    have hd : (k : Int).tdiv 16 = ((k / 16 : Nat) : Int) := by rw [Int.tdiv_eq_ediv_of_nonneg (by omega)]; rfl
    have hw : IntKind.u64.wrap ((k % 16 : Nat) : Int) = ((k % 16 : Nat) : Int) := wrap_u64 (by omega) (by omega)
    have hlt : k % 16 < 16 := Nat.mod_lt _ (by omega)
    have hc : (bif (decide ((k : Int) > (0 : Int))) then true else (s == ([] : Bytes))) = true := by
      rcases h0 with h0 | h0
      · rw [decide_eq_true (by omega)]; rfl
      · subst h0; cases decide ((k : Int) > 0) <;> rfl
    have step : intarsiaref02_Digits_b1 16 ((k : Int), s) = some (.inl (((k / 16 : Nat) : Int), hexC (k % 16) :: s)) := by
      unfold intarsiaref02_Digits_b1
      dsimp only
      rw [hc, cond_true, hm, chk_pos ⟨rfl, hw⟩, chk_pos ⟨rfl, hw⟩]
      show ((slc digsR ((k % 16 : Nat) : Int) (IntKind.u64.wrap (((k % 16 : Nat) : Int) + (1 : Int)))).bind _) = _
      rw [slc16 hlt, Option.bind_some, cat_ok (by simp; unfold maxLen; omega), Option.bind_some, chk_pos (show ((16 : Int) == 0) = false from rfl), hd, wrap_u64 (by omega) (by omega)]
      rfl
    rw [loopO_eq, step]
    show loopO (intarsiaref02_Digits_b1 16) (((k / 16 : Nat) : Int), hexC (k % 16) :: s) = _
    by_cases h16 : k < 16
    · have e : k / 16 = 0 := by omega
      have e2 : k % 16 = k := by omega
      rw [loopO_eq, e, e2]
      unfold intarsiaref02_Digits_b1
      dsimp only
      rw [show (bif decide (((0 : Nat) : Int) > 0) then true else (hexC k :: s == ([] : Bytes))) = false from rfl, cond_false]
      unfold hexL
      rw [decide_eq_true h16, cond_true]
      rfl
    · have hf : ∃ g, f = g + 1 := by
        cases f with
        | zero => simp at hk; omega
        | succ g => exact ⟨g, rfl⟩
      obtain ⟨g, rfl⟩ := hf
      have ih := dig16_loop g (k / 16) (hexC (k % 16) :: s) (by rw [Nat.pow_succ] at hk; omega) (by omega) (by simp; omega) (.inl (by omega))
      rw [ih]
      have : hexL (g + 1 + 1) k = hexL (g + 1) (k / 16) ++ [k % 16] := by rw [hexL, decide_eq_false h16, cond_false]
      rw [this]; simp
theorem refDigits16 {n : Nat} (h : n ≤ 20000) : intarsiaref02_Digits (n : Int) 16 = some (hexD n) := by
  unfold intarsiaref02_Digits
  rw [dig16_loop 4 n [] (by omega) (by omega) (by simp) (.inr rfl), Option.bind_some, List.append_nil]
  rfl
theorem refEncode_eq {b : Bytes} (h : b.length ≤ 20000) : intarsiaref08_Encode b = some (encB0 b) := by
  unfold intarsiaref08_Encode encB0
  cases hn : (b == ([] : Bytes)) with
  | true => rfl
  | false =>
    have hl := hexD_len h
    rw [cond_false, cond_false, u64_id (by omega) (by omega), refDigits16 h, Option.bind_some, cat_ok (by unfold maxLen; simp; omega), Option.bind_some, cat_ok (by unfold maxLen; simp; omega), Option.bind_some, cat_ok (by unfold maxLen; simp; omega), Option.bind_some]
    simp
theorem refPrint7_eq {l : List S_Field} (h : FRow l) (h40 : l.length ≤ 40) : intarsiaref07_Write l = some (textOf l) := by
  have key := loop_list (body := intarsiaref07_Write_b1 l) l (fun i (acc : Bytes) => (acc, (i : Int))) (fun acc f => (.inl (acc ++ (f.Name ++ [58, 32] ++ f.Value ++ [13, 10])) : Bytes ⊕ Bytes)) (fun acc => acc) (fun i acc => acc.length ≤ i * 300000 ∧ i ≤ 40) (fun i b x hx hi => ?_) (fun b hi => ?_) [] ⟨Nat.zero_le _, by omega⟩
  rotate_left
  · have hlt := lt_of_get hx
    obtain ⟨h1, h2⟩ := h.each x (List.mem_of_getElem? hx)
    refine .inl ⟨_, rfl, ?_, by simp; omega, by omega⟩
    unfold intarsiaref07_Write_b1
    dsimp only
    rw [dlt_true hlt, cond_true, idx_at hx, Option.bind_some, cat_ok (by unfold maxLen; omega), Option.bind_some, cat_ok (by unfold maxLen; simp; omega), Option.bind_some, cat_ok (by unfold maxLen; simp; omega), Option.bind_some, cat_ok (by unfold maxLen; simp; omega), Option.bind_some,
      wrap_inc hlt (by unfold maxLen; omega)]
    simp
  · unfold intarsiaref07_Write_b1
    dsimp only
    rw [dlt_self]; rfl
  have e : loopO (intarsiaref07_Write_b1 l) (([] : Bytes), (0 : Int)) = some (textOf l) := by
    have := fold_print l []
    rw [List.nil_append] at this
    rw [← this]; exact key
  unfold intarsiaref07_Write
  rw [e]; rfl
theorem refWrite_eq {m : S_Message} (h : MSm m) (c : Bool) : intarsiaref10_Write m c = some (writeB m c) := by
  have hrow := h.row
  have hlf := hrow.len
  have hbl := h.body
  unfold intarsiaref10_Write writeB
  rw [refSRight_eq h.start.small, Option.bind_some]
  cases hs : startB m.Start with
  | false => rfl
  | true =>
    show ((gcall true (intarsiaref04_Right m.Fields)).bind _) = _
    rw [gcall_tt rfl, refRight_eq (big (by omega)) hrow.small, Option.bind_some]
    have hp := printB_len h.start hs
    have hm1 := h.start.method
    have hm2 := h.start.target
    have hm3 := h.start.reason
    cases hr : rightB m.Fields with
    | false => rfl
    | true =>
      show (bif (bif (bif (!true) then true else (!true)) then true else decide ((m.Body.length : Int) > 20000)) then _ else _) = some (bif ((!true) || ((!true) || decide (m.Body.length > 20000))) then _ else _)
      have e : decide ((m.Body.length : Int) > 20000) = decide (m.Body.length > 20000) := by rw [decide_eq_decide]; omega
      rw [e]
      cases hb : decide (m.Body.length > 20000) with
      | true => rfl
      | false =>
        have hb2 : m.Body.length ≤ 20000 := by simpa using hb
        show (bif c then _ else _) = some (bif (withB m.Fields (bodOf m c)).2 != 0 then _ else _)
        have fin : ∀ (pay : Bytes) (b : S_Body), pay.length ≤ 30000 → ((intarsiaref09_With m.Fields b).bind fun x5 =>
            bif ((x5.2) != (0 : Int)) then some (([] : Bytes), (x5.2)) else
            (intarsiaref07_Write (x5.1)).bind fun x6 =>
            bif (decide ((x6.length : Int) > (4000 : Int))) then some (([] : Bytes), (2 : Int)) else
            (intarsiaref06_Print m.Start).bind fun x7 =>
            (cat x7 ([13, 10] : Bytes)).bind fun x8 =>
            (cat x8 x6).bind fun x9 =>
            (cat x9 ([13, 10] : Bytes)).bind fun x10 =>
            (cat x10 pay).bind fun x11 =>
            some (x11, (0 : Int))) = some (bif (withB m.Fields b).2 != 0 then ([], (withB m.Fields b).2) else bif decide ((textOf (withB m.Fields b).1).length > 4000) then ([], 2) else (headOf (printB m.Start) (withB m.Fields b).1 ++ pay, 0)) := by
          intro pay b hpay
          rw [refWith_eq hrow, Option.bind_some]
          rcases withB_cases m.Fields b with ⟨h1, h2⟩ | ⟨h1, h2⟩
          · rw [h2]; rfl
          · have hrow2 := made_row h2 hrow
            rw [h1, show ((0 : Int) != 0) = false from rfl, cond_false, cond_false, refPrint7_eq hrow2 (rightB_len h2.right), Option.bind_some]
            have e2 : decide (((textOf (withB m.Fields b).1).length : Int) > (4000 : Int)) = decide ((textOf (withB m.Fields b).1).length > 4000) := by rw [decide_eq_decide]; omega
            rw [e2]
            cases ht : decide ((textOf (withB m.Fields b).1).length > 4000) with
            | true => rfl
            | false =>
              have ht2 : (textOf (withB m.Fields b).1).length ≤ 4000 := by simpa using ht
              rw [cond_false, cond_false, refPrint_eq h.start hs, Option.bind_some]
              rw [cat_ok (by unfold maxLen; simp; omega), Option.bind_some, cat_ok (by unfold maxLen; simp; omega), Option.bind_some, cat_ok (by unfold maxLen; simp; omega), Option.bind_some, cat_ok (by unfold maxLen; simp; omega), Option.bind_some]
              unfold headOf
              simp
        cases c with
        | false => exact fin m.Body (B 1 (m.Body.length : Int)) (by omega)
        | true =>
          rw [cond_true, refEncode_eq hb2, Option.bind_some]
          have hel := encB0_len hb2
          show ((cat (encB0 m.Body) chEnd).bind _) = _
          rw [cat_ok (by unfold maxLen; simp [chEnd]; omega), Option.bind_some]
          exact fin (encB0 m.Body ++ chEnd) (B 2 0) (by simp [chEnd]; omega)
theorem cutM_sm (m : S_Message) : MSm (cutM m) := ⟨⟨by unfold cutM cutS; simp <;> omega, by unfold cutM cutS; simp <;> omega, by unfold cutM cutS; simp <;> omega⟩, cutL_row _, by unfold cutM; simp <;> omega⟩
theorem WireWrites_true (a0 : S_Message) (a1 : Bool) : intarsialaw10_WireWrites a0 a1 = some true := by
  unfold intarsialaw10_WireWrites
  rw [few_eq, Option.bind_some, Write_eq (cutM_sm a0), Option.bind_some, refWrite_eq (cutM_sm a0), Option.bind_some, alive_eq, Option.bind_some]
  simp
end Go.Proofs.YtpionnihpibglaaGreatDoor
