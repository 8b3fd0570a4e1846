/-
  Plain laws of the wire, 2: how long a body is; chunks.
-/
import Derived.Test.YtkfoahoplndelaaGreatDoorPw1
namespace Go.Proofs.YtkfoahoplndelaaGreatDoor
open Go Go.Pm
set_option linter.unusedVariables false
set_option maxRecDepth 100000
/-! ### How long a body is -/
def bodyB (asks : Bool) (m : Bytes) (h : S_Message) : S_Body × Int := bif asks then reqB h.Start h.Fields else ansB h.Start h.Fields m
theorem wbody_eq {r : S_Reader} (hs : SSmall r.Head.Start) (hf : FRow r.Head.Fields) : wire_body r = some (bodyB r.Asks r.Method r.Head) := by
  unfold wire_body bodyB
  rw [Request_eq hs hf, Answer_eq hs hf]
  cases r.Asks <;> rfl
def KindOk (b : S_Body) : Prop := b = B 0 0 ∨ (∃ z : Int, 0 ≤ z ∧ z ≤ 20000 ∧ b = B 1 z) ∨ b = B 2 0 ∨ b = B 3 0
theorem sayFold {n : S_Body} (hn : n = B 0 0 ∨ n = B 3 0) : ∀ (l : List Bytes) (c : Option Int), (foldE sayStep (sayFin n) l c).2 = 0 → KindOk (foldE sayStep (sayFin n) l c).1
  | [], none, _ => by
    unfold foldE sayFin
    rcases hn with rfl | rfl
    · exact .inl rfl
    · exact .inr (.inr (.inr rfl))
  | [], some z, h => by
    unfold foldE sayFin at h ⊢
    dsimp only at h ⊢
    by_cases h1 : z < 0
    · rw [decide_eq_true h1] at h; cases h
    · rw [decide_eq_false h1] at h ⊢
      by_cases h2 : z > 20000
      · rw [decide_eq_true h2] at h; cases h
      · rw [decide_eq_false h2]
        exact .inr (.inl ⟨z, by omega, by omega, rfl⟩)
  | x :: l, c, h => by
    rw [foldE_cons] at h ⊢
    cases hs : sayStep c x with
    | inl c' => rw [hs] at h; exact sayFold hn l c' h
    | inr r =>
      rw [hs] at h
      exfalso
      unfold sayStep at hs
      cases hd : ((dec x).2 == 10) with
      | true => rw [hd, cond_true] at hs; cases hs; cases h
      | false =>
        rw [hd, cond_false] at hs
        cases c with
        | none => cases hs
        | some z =>
          cases hz : (sizeOf x == z) with
          | true => simp only [hz, cond_true] at hs; cases hs
          | false => simp only [hz, cond_false] at hs; cases hs; cases h
theorem say_kindW {mi : Int} {l : List S_Field} {n : S_Body} (hn : n = B 0 0 ∨ n = B 3 0) (h : (sayB mi l n).2 = 0) : KindOk (sayB mi l n).1 := by
  unfold sayB at h ⊢
  cases h1 : decide ((valsN l nTE).length > 0) with
  | false => rw [h1, cond_false] at h; rw [cond_false]; exact sayFold hn _ _ h
  | true =>
    rw [h1, cond_true] at h
    rw [cond_true]
    cases h2 : (decide ((valsN l nCL).length > 0) || (mi == 0 || !(lower (Lib.join (valsN l nTE) sep) == chunked))) with
    | true => rw [h2, cond_true] at h; cases h
    | false => rw [cond_false]; exact .inr (.inr (.inl rfl))
structure BodyOk (asks : Bool) (h : S_Message) (b : S_Body) : Prop where
  start : startB h.Start = true
  fields : rightB h.Fields = true
  code : (h.Start.Code == (0 : Int)) = asks
  kind : KindOk b
theorem bodyB_ok {asks : Bool} {m : Bytes} {h : S_Message} (h0 : (bodyB asks m h).2 = 0) : BodyOk asks h (bodyB asks m h).1 := by
  unfold bodyB at h0 ⊢
  cases asks with
  | true =>
    rw [cond_true] at h0 ⊢
    unfold reqB at h0 ⊢
    cases h1 : startB h.Start with
    | false => rw [h1] at h0; cases h0
    | true =>
      cases h2 : (h.Start.Code != (0 : Int)) with
      | true => rw [h1, h2] at h0; cases h0
      | false =>
        cases h3 : rightB h.Fields with
        | false => rw [h1, h2, h3] at h0; cases h0
        | true =>
          rw [h1, h2, h3] at h0
          exact ⟨h1, h3, by simpa using h2, say_kindW (.inl rfl) h0⟩
  | false =>
    rw [cond_false] at h0 ⊢
    unfold ansB at h0 ⊢
    cases h1 : startB h.Start with
    | false => rw [h1] at h0; cases h0
    | true =>
      cases h2 : (h.Start.Code == (0 : Int)) with
      | true => rw [h1, h2] at h0; cases h0
      | false =>
        cases h3 : rightB h.Fields with
        | false => rw [h1, h2, h3] at h0; cases h0
        | true =>
          rw [h1, h2, h3] at h0
          refine ⟨h1, h3, h2, ?_⟩
          revert h0
          show (bif (decide (h.Start.Code < 200) || (h.Start.Code == 204 || (h.Start.Code == 304 || m == ([72, 69, 65, 68] : Bytes)))) then (B 0 0, 0) else sayB h.Start.Minor h.Fields (B 3 0)).2 = (0 : Int) → KindOk (bif (decide (h.Start.Code < 200) || (h.Start.Code == 204 || (h.Start.Code == 304 || m == ([72, 69, 65, 68] : Bytes)))) then (B 0 0, (0 : Int)) else sayB h.Start.Minor h.Fields (B 3 0)).1
          cases (decide (h.Start.Code < 200) || (h.Start.Code == 204 || (h.Start.Code == 304 || m == ([72, 69, 65, 68] : Bytes)))) with
          | true => intro _; exact .inl rfl
          | false => intro h0; exact say_kindW (.inr rfl) h0
/-! ### Hexadecimal numbers -/
theorem u64_id {n : Int} (h : 0 ≤ n) (h' : n < 18446744073709551616) : IntKind.u64.wrap n = n := by
  simp [IntKind.wrap, IntKind.bits, IntKind.signed]
  omega
theorem hex1 (b : UInt8) : Tot (number_ReadHex_1 (b.toNat : Int)) (fun v => 0 ≤ v ∧ v ≤ 16) := by
  have := byte_all (p := fun b => match number_ReadHex_1 (b.toNat : Int) with | some v => decide (0 ≤ v) && decide (v ≤ 16) | none => false) (by kernel_rfl) b
  cases h : number_ReadHex_1 (b.toNat : Int) with
  | none => simp only [h] at this; cases this
  | some v => simp only [h, Bool.and_eq_true, decide_eq_true_eq] at this; exact ⟨v, rfl, this⟩
theorem ReadHex_tot {s : Bytes} (hs : s.length ≤ maxLen) : Tot (number_ReadHex s) (fun r => 0 ≤ r.1 ∧ r.1 ≤ 1099511627776) := by
  unfold number_ReadHex
  refine Tot.bind (P := fun r => 0 ≤ r.1 ∧ r.1 ≤ 1099511627776) ?_ (fun x hx => .now hx)
  unfold number_read_uint64
  refine Tot.br (fun _ => .now (by simp)) (fun _ => ?_)
  refine loop_tot (fun x : Int × Bool × Int => (s.length : Int).toNat - x.2.2.toNat) (fun x => (0 ≤ x.1 ∧ x.1 ≤ 1099511627776) ∧ 0 ≤ x.2.2 ∧ x.2.2 ≤ (s.length : Int)) _ (fun x hx => ?_) _ (by simp [IntKind.wrap, IntKind.bits, IntKind.signed])
  obtain ⟨s1, s2, s3⟩ := x
  obtain ⟨⟨h1, h2⟩, h3, h4⟩ := hx
  simp only at h1 h2 h3 h4
  unfold number_read_uint64_b1
  dsimp only
  by_cases h : s3 < (s.length : Int)
  · rw [decide_eq_true h, cond_true]
    obtain ⟨i, rfl⟩ : ∃ i : Nat, s3 = i := ⟨s3.toNat, by omega⟩
    rw [idx_at (List.getElem?_eq_getElem (show i < s.length by omega)), Option.bind_some]
    obtain ⟨v, hv, hv0, hv1⟩ := hex1 (s[i]'(by omega))
    rw [hv, Option.bind_some, wrap_i64 (by omega) (by unfold maxLen at hs; omega)]
    have e1 : IntKind.u64.wrap (s1 * 16) = s1 * 16 := u64_id (by omega) (by omega)
    have e2 : IntKind.u64.wrap (s1 * 16 + v) = s1 * 16 + v := u64_id (by omega) (by omega)
    rw [e1, e2]
    cases hd : decide (v ≥ (16 : Int)) with
    | true => exact .inr ⟨_, rfl, by simp⟩
    | false =>
      rw [cond_false]
      by_cases hb : s1 * 16 + v > 1099511627776
      · rw [decide_eq_true hb]; exact .inl ⟨_, rfl, ⟨⟨by simp, by simp⟩, by show (0 : Int) ≤ (i : Int) + 1; omega, by show (i : Int) + 1 ≤ _; omega⟩, by show (s.length : Int).toNat - ((i : Int) + 1).toNat < (s.length : Int).toNat - (i : Int).toNat; omega⟩
      · rw [decide_eq_false hb]; exact .inl ⟨_, rfl, ⟨⟨by show (0 : Int) ≤ s1 * 16 + v; omega, by show s1 * 16 + v ≤ _; omega⟩, by show (0 : Int) ≤ (i : Int) + 1; omega, by show (i : Int) + 1 ≤ _; omega⟩, by show (s.length : Int).toNat - ((i : Int) + 1).toNat < (s.length : Int).toNat - (i : Int).toNat; omega⟩
  · rw [decide_eq_false h, cond_false]
    cases s2 with
    | true => exact .inr ⟨_, rfl, by simp⟩
    | false => exact .inr ⟨_, rfl, by simp; omega⟩
/-! ### Chunks -/
structure ChOk (c : S_Chunked) : Prop where
  stage : 0 ≤ c.Stage ∧ c.Stage ≤ 4
  size : 0 ≤ c.Size ∧ c.Size ≤ 20000
  line : c.Line.length ≤ 200 ∧ c.Line.contains 10 = false
  data : c.Stage = 1 → 1 ≤ c.Left ∧ c.Left ≤ 20000 - c.Size ∧ c.Line = []
  rest : c.Stage ≠ 1 → c.Left = 0 ∧ (c.Stage = 4 → c.Line = [])
theorem chRight {c : S_Chunked} : Tot (chunk_Right c) (fun b => b = true ↔ ChOk c) := by
  unfold chunk_Right
  by_cases h : (0 ≤ c.Stage ∧ c.Stage ≤ 4) ∧ (0 ≤ c.Size ∧ c.Size ≤ 20000) ∧ c.Line.length ≤ 200
  · obtain ⟨⟨h1, h2⟩, ⟨h3', h4⟩, h5⟩ := h
    have e : (bif (bif (bif (bif (decide ((c.Stage) < (0 : Int))) then true else (decide ((c.Stage) > (4 : Int)))) then true else (decide ((c.Size) < (0 : Int)))) then true else (decide ((c.Size) > (20000 : Int)))) then true else (decide (((c.Line).length : Int) > (200 : Int)))) = false := by
      rw [decide_eq_false (by omega), decide_eq_false (by omega), decide_eq_false (by omega), decide_eq_false (by omega), decide_eq_false (by omega)]; rfl
    rw [e, gcall_tt (show (!false) = true from rfl), Contains_one, Option.bind_some, indexByte_has, cond_false]
    cases hl : c.Line.contains 10 with
    | true => exact Tot.eq rfl (show (false = true ↔ ChOk c) from ⟨fun h => (by cases h), fun h => absurd (h.line.2.symm.trans hl) (by simp)⟩)
    | false =>
      rw [cond_false]
      by_cases h6 : c.Stage = 1
      · have e6 : (c.Stage == (1 : Int)) = true := by simp [h6]
        rw [e6, cond_true]
        have ew : IntKind.i64.wrap ((20000 : Int) - c.Size) = 20000 - c.Size := wrap_i64 (by omega) (by omega)
        rw [ew]
        refine ⟨_, rfl, ⟨fun h => ?_, fun h => ?_⟩⟩
        · cases d1 : decide (c.Left ≥ 1) with
          | false => rw [d1] at h; cases h
          | true =>
            cases d2 : decide (c.Left ≤ 20000 - c.Size) with
            | false => rw [d1, d2] at h; cases h
            | true =>
              rw [d1, d2] at h
              have h3 : (c.Line == ([] : Bytes)) = true := h
              exact ⟨⟨h1, h2⟩, ⟨h3', h4⟩, ⟨h5, hl⟩, fun _ => ⟨of_decide_eq_true d1, of_decide_eq_true d2, eq_of_beq h3⟩, fun hn => absurd h6 hn⟩
        · obtain ⟨g1, g2, g3⟩ := h.data h6
          rw [decide_eq_true g1, decide_eq_true g2, g3]; rfl
      · have e6 : (c.Stage == (1 : Int)) = false := by simp [h6]
        rw [e6, cond_false]
        refine ⟨_, rfl, ⟨fun h => ?_, fun h => ?_⟩⟩
        · by_cases h7 : c.Left = 0
          · refine ⟨⟨h1, h2⟩, ⟨h3', h4⟩, ⟨h5, hl⟩, fun hn => absurd hn h6, fun _ => ⟨h7, fun h8 => ?_⟩⟩
            rw [h7, h8] at h
            simpa using h
          · have : (c.Left == (0 : Int)) = false := by simp [h7]
            rw [this] at h; cases h
        · obtain ⟨g1, g2⟩ := h.rest h6
          rw [g1]
          by_cases h8 : c.Stage = 4
          · rw [g2 h8, h8]; rfl
          · have : (c.Stage != (4 : Int)) = true := by simp [h8]
            rw [this]; rfl
  · have e : (bif (bif (bif (bif (decide ((c.Stage) < (0 : Int))) then true else (decide ((c.Stage) > (4 : Int)))) then true else (decide ((c.Size) < (0 : Int)))) then true else (decide ((c.Size) > (20000 : Int)))) then true else (decide (((c.Line).length : Int) > (200 : Int)))) = true := by
      by_cases h1 : c.Stage < 0
      · rw [decide_eq_true h1]; rfl
      rw [decide_eq_false h1]
      by_cases h2 : c.Stage > 4
      · rw [decide_eq_true h2]; rfl
      rw [decide_eq_false h2]
      by_cases h3 : c.Size < 0
      · rw [decide_eq_true h3]; rfl
      rw [decide_eq_false h3]
      by_cases h4 : c.Size > 20000
      · rw [decide_eq_true h4]; rfl
      rw [decide_eq_false h4]
      have h5 : ((c.Line).length : Int) > (200 : Int) := by omega
      rw [decide_eq_true h5]; rfl
    rw [e, gcall_ff (show (!true) = false from rfl), Option.bind_some]
    exact Tot.eq rfl (show (false = true ↔ ChOk c) from ⟨fun h => (by cases h), fun hc => absurd ⟨hc.stage, hc.size, hc.line.1⟩ h⟩)
noncomputable def lineG (f : S_chunk_state → Bytes → Option (Unit × S_chunk_state)) (o0 : S_chunk_state) (a1 : Bytes) : Option (Int × S_chunk_state) :=
  (strings_IndexByte a1 (10 : Int)).bind fun x1 =>
    bif (decide (x1 ≥ (0 : Int))) then
      (slc a1 0 x1).bind fun x2 =>
      bif (decide ((IntKind.i64.wrap ((((o0.Chunked).Line).length : Int) + (x2.length : Int))) > (200 : Int))) then
        some ((0 : Int), (S_chunk_state.mk (o0.Chunked) (33 : Int)))
      else
        (cat ((o0.Chunked).Line) x2).bind fun x3 =>
        bif (decide (x1 < (0 : Int))) then
          some ((a1.length : Int), (S_chunk_state.mk (S_Chunked.mk ((o0.Chunked).Stage) x3 ((o0.Chunked).Left) ((o0.Chunked).Size)) (o0.bad)))
        else
          (strings_TrimSuffix x3 ([13] : Bytes)).bind fun x4 =>
          (f (S_chunk_state.mk (S_Chunked.mk ((o0.Chunked).Stage) ([] : Bytes) ((o0.Chunked).Left) ((o0.Chunked).Size)) (o0.bad)) x4).bind fun x5 =>
          some ((IntKind.i64.wrap (x1 + (1 : Int))), (x5.2))
    else
      bif (decide ((IntKind.i64.wrap ((((o0.Chunked).Line).length : Int) + (a1.length : Int))) > (200 : Int))) then
        some ((0 : Int), (S_chunk_state.mk (o0.Chunked) (33 : Int)))
      else
        (cat ((o0.Chunked).Line) a1).bind fun x6 =>
        bif (decide (x1 < (0 : Int))) then
          some ((a1.length : Int), (S_chunk_state.mk (S_Chunked.mk ((o0.Chunked).Stage) x6 ((o0.Chunked).Left) ((o0.Chunked).Size)) (o0.bad)))
        else
          (strings_TrimSuffix x6 ([13] : Bytes)).bind fun x7 =>
          (f (S_chunk_state.mk (S_Chunked.mk ((o0.Chunked).Stage) ([] : Bytes) ((o0.Chunked).Left) ((o0.Chunked).Size)) (o0.bad)) x7).bind fun x8 =>
          some ((IntKind.i64.wrap (x1 + (1 : Int))), (x8.2))
theorem line_eq (o0 : S_chunk_state) (a1 : Bytes) : chunk_state_line o0 a1 = bif (((o0.Chunked).Stage) == (2 : Int)) then lineG chunk_state_end o0 a1 else bif (((o0.Chunked).Stage) == (3 : Int)) then lineG chunk_state_tail o0 a1 else lineG chunk_state_size o0 a1 := rfl
def LineQ (c : S_Chunked) (n : Nat) (r : Int × S_chunk_state) : Prop := r.2.bad ≠ 0 ∨ (1 ≤ r.1 ∧ r.1 ≤ (n : Int) ∧ r.2.bad = 0 ∧ ChOk r.2.Chunked ∧ r.2.Chunked.Size = c.Size)
theorem lineG_tot {f : S_chunk_state → Bytes → Option (Unit × S_chunk_state)} {c : S_Chunked} {a1 : Bytes} (hc : ChOk c) (h1 : c.Stage ≠ 1) (h4 : c.Stage ≠ 4) (ha : 1 ≤ a1.length) (hl : a1.length ≤ 1000000)
    (hf : ∀ x : Bytes, x.length ≤ 200 → Tot (f (S_chunk_state.mk (S_Chunked.mk c.Stage ([] : Bytes) c.Left c.Size) 0) x) (fun r => r.2.bad ≠ 0 ∨ (r.2.bad = 0 ∧ ChOk r.2.Chunked ∧ r.2.Chunked.Size = c.Size))) :
    Tot (lineG f (S_chunk_state.mk c 0) a1) (LineQ c a1.length) := by
  unfold lineG
  have hll := hc.line.1
  rw [IndexByte_eq, Option.bind_some]
  have e10 : u8 10 = (10 : UInt8) := rfl
  rw [e10]
  have hr := indexByte_range a1 10
  have hh := indexByte_has a1 10
  generalize Lib.indexByte a1 10 = n at hr hh
  refine Tot.br (fun hn => ?_) (fun hn => ?_)
  · have hn := of_decide_eq_true hn
    rcases hr with hr | ⟨hr1, hr2⟩
    · omega
    refine Tot.bind (slc_tot ⟨Int.le_refl _, hr1, by omega⟩) (fun x2 hx2 => ?_)
    have hx2l : x2.length = n.toNat := by rw [hx2]; simp; omega
    have ew : IntKind.i64.wrap (((c.Line).length : Int) + (x2.length : Int)) = ((c.Line).length : Int) + (x2.length : Int) := wrap_i64 (by omega) (by omega)
    refine Tot.br (fun _ => .now (.inl (by simp))) (fun hb => ?_)
    have hb : ¬ (IntKind.i64.wrap (((c.Line).length : Int) + (x2.length : Int)) > 200) := of_decide_eq_false hb
    rw [ew] at hb
    have hcat : cat c.Line x2 = some (c.Line ++ x2) := by unfold cat; rw [chk_pos (by unfold maxLen; omega)]
    show Tot ((cat c.Line x2).bind _) _
    rw [hcat, Option.bind_some, decide_eq_false (show ¬ n < 0 by omega), cond_false]
    refine Tot.bind (TrimS_tot 13 (by unfold maxLen; simp; omega)) (fun x4 hx4 => ?_)
    refine Tot.bind (hf x4 (by simp at hx4; omega)) (fun x5 hx5 => .now ?_)
    rw [wrap_i64 (by omega) (by omega)]
    rcases hx5 with h | ⟨g1, g2, g3⟩
    · exact .inl h
    · exact .inr ⟨by show 1 ≤ n + 1; omega, by show n + 1 ≤ _; omega, g1, g2, g3⟩
  · have hno := hn
    have hn := of_decide_eq_false hn
    refine Tot.br (fun _ => .now (.inl (by simp))) (fun hb => ?_)
    have hb : ¬ (IntKind.i64.wrap (((c.Line).length : Int) + (a1.length : Int)) > 200) := of_decide_eq_false hb
    rw [wrap_i64 (by omega) (by omega)] at hb
    have hcat : cat c.Line a1 = some (c.Line ++ a1) := by unfold cat; rw [chk_pos (by unfold maxLen; omega)]
    show Tot ((cat c.Line a1).bind _) _
    rw [hcat, Option.bind_some, decide_eq_true (show n < 0 by omega), cond_true]
    refine .now (.inr ⟨by show (1 : Int) ≤ (a1.length : Int); omega, Int.le_refl _, rfl, ?_, rfl⟩)
    have h3 : a1.contains 10 = false := hh.symm.trans hno
    refine ⟨hc.stage, hc.size, ⟨by show (c.Line ++ a1).length ≤ 200; simp; omega, ?_⟩, fun h => absurd h h1, fun h => ⟨(hc.rest h1).1, fun h => absurd h h4⟩⟩
    show (c.Line ++ a1).contains 10 = false
    have h2 := hc.line.2
    simp only [List.contains_eq_mem, List.mem_append, decide_eq_false_iff_not] at h2 h3 ⊢
    intro h; exact h.elim h2 h3
theorem end_tot {c : S_Chunked} (hc : ChOk c) (h1 : c.Stage ≠ 1) (x : Bytes) : Tot (chunk_state_end (S_chunk_state.mk (S_Chunked.mk c.Stage ([] : Bytes) c.Left c.Size) 0) x) (fun r => r.2.bad ≠ 0 ∨ (r.2.bad = 0 ∧ ChOk r.2.Chunked ∧ r.2.Chunked.Size = c.Size)) := by
  unfold chunk_state_end
  refine Tot.br (fun _ => .now (.inl (by simp))) (fun _ => .now (.inr ⟨rfl, ?_, rfl⟩))
  exact ⟨by simp, hc.size, ⟨by simp, by simp⟩, fun h => (by cases h), fun _ => ⟨(hc.rest h1).1, fun h => by cases h⟩⟩
theorem tail_tot {c : S_Chunked} (hc : ChOk c) (h1 : c.Stage ≠ 1) (h3 : c.Stage = 3) (x : Bytes) : Tot (chunk_state_tail (S_chunk_state.mk (S_Chunked.mk c.Stage ([] : Bytes) c.Left c.Size) 0) x) (fun r => r.2.bad ≠ 0 ∨ (r.2.bad = 0 ∧ ChOk r.2.Chunked ∧ r.2.Chunked.Size = c.Size)) := by
  unfold chunk_state_tail
  refine Tot.br (fun _ => .now (.inr ⟨rfl, ?_, rfl⟩)) (fun _ => .now (.inr ⟨rfl, ?_, rfl⟩))
  · exact ⟨by simp, hc.size, ⟨by simp, by simp⟩, fun h => (by cases h), fun _ => ⟨(hc.rest h1).1, fun h => rfl⟩⟩
  · exact ⟨hc.stage, hc.size, ⟨by simp, by simp⟩, fun h => absurd h h1, fun _ => ⟨(hc.rest h1).1, fun h => rfl⟩⟩
theorem size_tot {c : S_Chunked} (hc : ChOk c) (h1 : c.Stage ≠ 1) (x : Bytes) (hx : x.length ≤ 200) : Tot (chunk_state_size (S_chunk_state.mk (S_Chunked.mk c.Stage ([] : Bytes) c.Left c.Size) 0) x) (fun r => r.2.bad ≠ 0 ∨ (r.2.bad = 0 ∧ ChOk r.2.Chunked ∧ r.2.Chunked.Size = c.Size)) := by
  unfold chunk_state_size
  have hcut := cutC_le 59 x
  have htr := trim_le (cutC 59 x).1
  rw [Cut_one 59 (by unfold maxLen; omega), Option.bind_some, Trim_eq (by unfold maxLen; omega), Option.bind_some]
  refine Tot.bind (ReadHex_tot (by unfold maxLen; omega)) (fun v hv => ?_)
  obtain ⟨hv0, hv1⟩ := hv
  have hsz := hc.size
  refine Tot.br (fun _ => .now (.inl (by simp))) (fun _ => ?_)
  refine Tot.br (fun _ => .now (.inl (by simp))) (fun hb => ?_)
  have ew : IntKind.u64.wrap (IntKind.i64.wrap ((20000 : Int) - c.Size)) = 20000 - c.Size := by rw [wrap_i64 (by omega) (by omega), u64_id (by omega) (by omega)]
  have hle : v.1 ≤ 20000 - c.Size := by
    cases hd : decide (v.1 > (IntKind.u64.wrap (IntKind.i64.wrap ((20000 : Int) - c.Size)))) with
    | true =>
      have hb2 : (bif (v.2 != (0 : Int)) then true else (decide (v.1 > (IntKind.u64.wrap (IntKind.i64.wrap ((20000 : Int) - c.Size)))))) = false := hb
      rw [hd] at hb2
      cases hx : (v.2 != (0 : Int)) <;> rw [hx] at hb2 <;> cases hb2
    | false => have := of_decide_eq_false hd; rw [ew] at this; omega
  refine Tot.br (fun _ => .now (.inr ⟨rfl, ?_, rfl⟩)) (fun hz => .now (.inr ⟨rfl, ?_, rfl⟩))
  · exact ⟨by simp, hc.size, ⟨by simp, by simp⟩, fun h => (by cases h), fun _ => ⟨(hc.rest h1).1, fun h => by cases h⟩⟩
  · have hz : v.1 ≠ 0 := by simpa using hz
    have ew2 : IntKind.i64.wrap v.1 = v.1 := wrap_i64 (by omega) (by omega)
    refine ⟨by simp, hc.size, ⟨by simp, by simp⟩, fun _ => ⟨?_, ?_, rfl⟩, fun h => absurd rfl h⟩
    · show 1 ≤ IntKind.i64.wrap v.1; rw [ew2]; omega
    · show IntKind.i64.wrap v.1 ≤ 20000 - c.Size; rw [ew2]; exact hle
theorem line_tot {c : S_Chunked} {a1 : Bytes} (hc : ChOk c) (h1 : c.Stage ≠ 1) (h4 : c.Stage ≠ 4) (ha : 1 ≤ a1.length) (hl : a1.length ≤ 1000000) : Tot (chunk_state_line (S_chunk_state.mk c 0) a1) (LineQ c a1.length) := by
  rw [line_eq]
  refine Tot.br (fun _ => lineG_tot hc h1 h4 ha hl fun x _ => end_tot hc h1 x) (fun _ => ?_)
  refine Tot.br (fun h3 => lineG_tot hc h1 h4 ha hl fun x _ => tail_tot hc h1 (by simpa using h3) x) (fun _ => ?_)
  exact lineG_tot hc h1 h4 ha hl fun x hx => size_tot hc h1 x hx
structure FeedQ (c : S_Chunked) (t : Bytes) (r : S_Chunked × Bytes × Int × Int) : Prop where
  ok : ChOk r.1
  took : 0 ≤ r.2.2.1 ∧ r.2.2.1 ≤ (t.length : Int)
  all : r.1.Stage ≠ 4 → r.2.2.1 = (t.length : Int)
  size : r.1.Size = c.Size + (r.2.1.length : Int)
  bad : r.2.2.2 = 0
theorem CFeed_tot {c : S_Chunked} {t : Bytes} (hc : ChOk c) (ht : t.length ≤ 1000000) : Tot (chunk_Feed c t) (fun r => r.2.2.2 ≠ 0 ∨ FeedQ c t r) := by
  unfold chunk_Feed
  obtain ⟨b, hb, hb2⟩ := chRight (c := c)
  rw [hb, hb2.2 hc, Option.bind_some]
  show Tot (loopO (chunk_Feed_b1 t) ((0 : Int), (S_chunk_state.mk c (0 : Int)), ([] : Bytes))) _
  refine loop_tot (fun x : Int × S_chunk_state × Bytes => t.length - x.1.toNat) (fun x => (0 ≤ x.1 ∧ x.1 ≤ (t.length : Int)) ∧ x.2.1.bad = 0 ∧ ChOk x.2.1.Chunked ∧ x.2.1.Chunked.Size = c.Size + (x.2.2.length : Int)) _ (fun x hx => ?_) _ ⟨⟨by simp, by simp⟩, rfl, hc, by simp⟩
  obtain ⟨a, ⟨c1, bd⟩, d⟩ := x
  obtain ⟨⟨h1, h2⟩, h3, h4, h5⟩ := hx
  simp only at h1 h2 h3 h4 h5
  subst h3
  have hdl : d.length ≤ 20000 := by have := h4.size; have := hc.size; omega
  unfold chunk_Feed_b1
  dsimp only
  by_cases hlt : a < (t.length : Int)
  · rw [decide_eq_true hlt, cond_true]
    by_cases hs4 : c1.Stage = 4
    · have e : (c1.Stage != (4 : Int)) = false := by simp [hs4]
      rw [e, cond_false]
      refine .inr ⟨_, by unfold bcat; rw [if_pos (by simp; omega)]; rfl, .inr ⟨h4, ⟨h1, h2⟩, fun h => absurd hs4 h, h5, rfl⟩⟩
    · have e : (c1.Stage != (4 : Int)) = true := by simp [hs4]
      rw [e, cond_true]
      by_cases hs1 : c1.Stage = 1
      · have e1 : (c1.Stage != (1 : Int)) = false := by simp [hs1]
        obtain ⟨g1, g2, g3⟩ := h4.data hs1
        have hsz := h4.size
        rw [e1, cond_false]
        have ew : IntKind.i64.wrap ((t.length : Int) - a) = (t.length : Int) - a := wrap_i64 (by omega) (by omega)
        rw [ew]
        obtain ⟨m, hm, hm1, hm2, hm3⟩ : ∃ m, imin c1.Left ((t.length : Int) - a) = m ∧ 1 ≤ m ∧ m ≤ c1.Left ∧ m ≤ (t.length : Int) - a := by
          refine ⟨_, rfl, ?_⟩
          unfold imin
          split <;> omega
        rw [hm]
        have ew2 : IntKind.i64.wrap (a + m) = a + m := wrap_i64 (by omega) (by omega)
        have ew3 : IntKind.i64.wrap (c1.Left - m) = c1.Left - m := wrap_i64 (by omega) (by omega)
        have ew4 : IntKind.i64.wrap (c1.Size + m) = c1.Size + m := wrap_i64 (by omega) (by omega)
        rw [ew2, ew3, ew4]
        have hsl : slc t a (a + m) = some ((t.drop a.toNat).take ((a + m).toNat - a.toNat)) := by unfold slc; rw [chk_pos ⟨h1, by omega, by omega⟩]
        rw [hsl, Option.bind_some]
        have hxl : ((t.drop a.toNat).take ((a + m).toNat - a.toNat)).length = m.toNat := by simp; omega
        have hbc : bcat d ((t.drop a.toNat).take ((a + m).toNat - a.toNat)) = some (d ++ (t.drop a.toNat).take ((a + m).toNat - a.toNat)) := by unfold bcat; rw [if_pos (by rw [hxl]; omega)]
        rw [hbc, Option.bind_some]
        have hsz2 : c1.Size + m = c.Size + ((d ++ (t.drop a.toNat).take ((a + m).toNat - a.toNat)).length : Int) := by rw [List.length_append, hxl]; omega
        by_cases h0 : c1.Left - m = 0
        · have e0 : ((c1.Left - m) == (0 : Int)) = true := by simp [h0]
          rw [e0, cond_true]
          refine .inl ⟨_, rfl, ⟨⟨by show 0 ≤ a + m; omega, by show a + m ≤ _; omega⟩, rfl, ⟨by simp, by show 0 ≤ c1.Size + m ∧ c1.Size + m ≤ 20000; omega, h4.line, fun h => (by cases h), fun _ => ⟨h0, fun h => by cases h⟩⟩, hsz2⟩, by show t.length - (a + m).toNat < t.length - a.toNat; omega⟩
        · have e0 : ((c1.Left - m) == (0 : Int)) = false := by simp [h0]
          rw [e0, cond_false]
          refine .inl ⟨_, rfl, ⟨⟨by show 0 ≤ a + m; omega, by show a + m ≤ _; omega⟩, rfl, ⟨h4.stage, by show 0 ≤ c1.Size + m ∧ c1.Size + m ≤ 20000; omega, h4.line, fun _ => ⟨by show 1 ≤ c1.Left - m; omega, by show c1.Left - m ≤ 20000 - (c1.Size + m); omega, g3⟩, fun h => absurd hs1 h⟩, hsz2⟩, by show t.length - (a + m).toNat < t.length - a.toNat; omega⟩
      · have e1 : (c1.Stage != (1 : Int)) = true := by simp [hs1]
        rw [e1, cond_true]
        have hsl : slc t a (t.length : Int) = some ((t.drop a.toNat).take (t.length - a.toNat)) := by unfold slc; rw [chk_pos ⟨h1, by omega, by omega⟩]; rfl
        rw [hsl, Option.bind_some]
        have hxl : ((t.drop a.toNat).take (t.length - a.toNat)).length = t.length - a.toNat := by simp
        obtain ⟨x6, hx6, hq⟩ := line_tot (a1 := (t.drop a.toNat).take (t.length - a.toNat)) h4 hs1 hs4 (by rw [hxl]; omega) (by rw [hxl]; omega)
        rw [hx6, Option.bind_some]
        rcases hq with hq | ⟨q1, q2, q3, q4, q5⟩
        · have e2 : (x6.2.bad != (0 : Int)) = true := by simp [hq]
          rw [e2, cond_true]
          exact .inr ⟨_, rfl, .inl hq⟩
        · have e2 : (x6.2.bad != (0 : Int)) = false := by simp [q3]
          rw [e2, cond_false]
          rw [hxl] at q2
          have ew : IntKind.i64.wrap (a + x6.1) = a + x6.1 := wrap_i64 (by omega) (by omega)
          rw [ew]
          exact .inl ⟨_, rfl, ⟨⟨by show 0 ≤ a + x6.1; omega, by show a + x6.1 ≤ _; omega⟩, q3, q4, by rw [q5]; exact h5⟩, by show t.length - (a + x6.1).toNat < t.length - a.toNat; omega⟩
  · rw [decide_eq_false hlt, cond_false]
    refine .inr ⟨_, by unfold bcat; rw [if_pos (by simp; omega)]; rfl, .inr ⟨h4, ⟨h1, h2⟩, fun _ => by show a = _; omega, h5, rfl⟩⟩
end Go.Proofs.YtkfoahoplndelaaGreatDoor
