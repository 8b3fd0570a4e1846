/-
  Plain laws of the wire, 3: what readers may be; reading on.
-/
import Derived.Test.YtkfoahoplndelaaGreatDoorPw2
namespace Go.Proofs.YtkfoahoplndelaaGreatDoor
open Go Go.Pm
set_option linter.unusedVariables false
set_option maxRecDepth 100000
theorem imin_cases (a b : Int) : (imin a b = a ∧ a ≤ b) ∨ (imin a b = b ∧ b ≤ a) := by
  unfold imin
  split <;> omega
def zeroM : S_Message := S_Message.mk zeroS [] []
def zeroC : S_Chunked := S_Chunked.mk 0 [] 0 0
theorem zeroC_ok : ChOk zeroC := ⟨⟨Int.le_refl _, by decide⟩, ⟨Int.le_refl _, by decide⟩, ⟨Nat.zero_le _, rfl⟩, fun h => (by cases h), fun _ => ⟨rfl, fun _ => rfl⟩⟩
structure RIn (a : Bool) (m : Bytes) (h : S_Message) (b : S_Body) (c : S_Chunked) : Prop where
  start : SSmall h.Start
  fields : FRow h.Fields
  body : bodyB a m h = (b, 0)
  len : h.Body.length ≤ 40000
  noch : b.Kind ≠ 2 → c = zeroC
  k1 : b.Kind = 1 → (h.Body.length : Int) ≤ b.Size
  k2 : b.Kind = 2 → ChOk c ∧ c.Stage ≠ 4 ∧ c.Size = (h.Body.length : Int)
  k3 : b.Kind = 3 → h.Body.length ≤ 20000
def mu (w : S_wire_reading) : Nat := 2 * w.Reader.Buf.length + (bif w.Reader.In then 1 else 0)
structure WI (a : Bool) (m : Bytes) (w : S_wire_reading) : Prop where
  asks : w.Reader.Asks = a
  meth : w.Reader.Method = m
  bad : w.Reader.Bad = 0
  buf : w.Reader.Buf.length ≤ 50000
  cnt : w.out.length + mu w ≤ 1000000
  ou : w.Reader.In = false → w.Reader.Head = zeroM ∧ w.Reader.Body = B 0 0 ∧ w.Reader.Chunk = zeroC
  inn : w.Reader.In = true → RIn a m w.Reader.Head w.Reader.Body w.Reader.Chunk
inductive XOk (a : Bool) (m : Bytes) : S_Reader → Prop
  | bad (e : Int) (he : e ≠ 0) : XOk a m (S_Reader.mk a m [] false zeroM (B 0 0) zeroC e)
  | out (b : Bytes) (hb : b.length ≤ 4000) : XOk a m (S_Reader.mk a m b false zeroM (B 0 0) zeroC 0)
  | inn (h : S_Message) (b : S_Body) (c : S_Chunked) (hr : RIn a m h b c) (h1 : b.Kind = 1 → (h.Body.length : Int) < b.Size) (h0 : b.Kind ≠ 0) : XOk a m (S_Reader.mk a m [] true h b c 0)
theorem RIn.kind {a : Bool} {m : Bytes} {h : S_Message} {b : S_Body} {c : S_Chunked} (hr : RIn a m h b c) : BodyOk a h b := by
  have := bodyB_ok (asks := a) (m := m) (h := h) (by rw [hr.body])
  rw [hr.body] at this
  exact this
theorem fail_eq (w : S_wire_reading) (e : Int) : wire_reading_fail w e = some (false, S_wire_reading.mk (S_Reader.mk w.Reader.Asks w.Reader.Method [] false zeroM (B 0 0) zeroC e) w.out) := rfl
theorem whole_eq {w : S_wire_reading} (h : w.out.length ≤ 1000000) : wire_reading_whole w = some (true, S_wire_reading.mk (S_Reader.mk w.Reader.Asks w.Reader.Method w.Reader.Buf false zeroM (B 0 0) zeroC w.Reader.Bad) (w.out ++ [w.Reader.Head])) := by
  unfold wire_reading_whole app
  rw [chk_pos (by unfold maxLen; simp; omega), Option.bind_some]
  rfl
def MoreQ (a : Bool) (m : Bytes) (w : S_wire_reading) (r : Bool × S_wire_reading) : Prop := (r.1 = true → WI a m r.2 ∧ mu r.2 < mu w) ∧ (r.1 = false → XOk a m r.2.Reader)
theorem more_tot {a : Bool} {m : Bytes} {w : S_wire_reading} (hw : WI a m w) (hin : w.Reader.In = true) : Tot (wire_reading_more w) (MoreQ a m w) := by
  obtain ⟨⟨A, M, Bf, I, H, Bd, C, E⟩, O⟩ := w
  obtain ⟨h1, h2, h3, h4, h5, _, h7⟩ := hw
  have hr := h7 hin
  simp only at h1 h2 h3 h4 h5 hin hr
  subst h1 h2 h3 hin
  have hO : O.length ≤ 1000000 := by unfold mu at h5; omega
  have hmu : mu (S_wire_reading.mk (S_Reader.mk A M Bf true H Bd C 0) O) = 2 * Bf.length + 1 := rfl
  rw [hmu] at h5
  have whole : ∀ (b : Bytes) (h : S_Message) (bd : S_Body) (c : S_Chunked), b.length ≤ Bf.length → WI A M (S_wire_reading.mk (S_Reader.mk A M b false zeroM (B 0 0) zeroC 0) (O ++ [h])) ∧ mu (S_wire_reading.mk (S_Reader.mk A M b false zeroM (B 0 0) zeroC 0) (O ++ [h])) < mu (S_wire_reading.mk (S_Reader.mk A M Bf true H Bd C 0) O) := fun b h bd c hb => by
    have e : mu (S_wire_reading.mk (S_Reader.mk A M b false zeroM (B 0 0) zeroC 0) (O ++ [h])) = 2 * b.length := rfl
    refine ⟨⟨rfl, rfl, rfl, by show b.length ≤ 50000; omega, ?_, fun _ => ⟨rfl, rfl, rfl⟩, fun h => by cases h⟩, by rw [e, hmu]; omega⟩
    rw [e]
    show (O ++ [h]).length + 2 * b.length ≤ 1000000
    simp
    omega
  unfold wire_reading_more
  rcases hr.kind.kind with rfl | ⟨z, hz0, hz1, rfl⟩ | rfl | rfl
  · -- none
    show Tot ((wire_reading_whole _).bind _) _
    rw [whole_eq hO, Option.bind_some]
    exact .now ⟨fun _ => whole Bf H (B 0 0) C (Nat.le_refl _), fun h => by cases h⟩
  · -- a size
    have hk1 : (H.Body.length : Int) ≤ z := hr.k1 rfl
    have hc : C = zeroC := hr.noch (by simp [B])
    show Tot ((slc Bf 0 (imin (Bf.length : Int) (IntKind.i64.wrap (z - (H.Body.length : Int))))).bind fun x2 => (cat H.Body x2).bind fun x3 => (slc Bf (imin (Bf.length : Int) (IntKind.i64.wrap (z - (H.Body.length : Int)))) (Bf.length : Int)).bind fun x4 => _) _
    rw [wrap_i64 (by omega) (by omega)]
    obtain ⟨k, hk, hk1', hk2⟩ : ∃ k : Nat, imin (Bf.length : Int) (z - (H.Body.length : Int)) = (k : Int) ∧ k ≤ Bf.length ∧ ((k : Int) = z - (H.Body.length : Int) ∨ (k = Bf.length ∧ (k : Int) ≤ z - (H.Body.length : Int))) := by
      rcases imin_cases (Bf.length : Int) (z - (H.Body.length : Int)) with ⟨h1, h2⟩ | ⟨h1, h2⟩
      · rw [h1]; exact ⟨Bf.length, rfl, Nat.le_refl _, .inr ⟨rfl, h2⟩⟩
      · rw [h1]; exact ⟨(z - (H.Body.length : Int)).toNat, by omega, by omega, .inl (by omega)⟩
    rw [hk]
    have e1 : slc Bf 0 (k : Int) = some (Bf.take k) := by unfold slc; rw [chk_pos (by omega)]; simp
    have e2 : slc Bf (k : Int) (Bf.length : Int) = some (Bf.drop k) := by
      unfold slc
      rw [chk_pos (by omega)]
      show some ((Bf.drop k).take (Bf.length - k)) = _
      rw [List.take_of_length_le (by simp)]
    have hl := hr.len
    have e3 : cat H.Body (Bf.take k) = some (H.Body ++ Bf.take k) := by unfold cat; rw [chk_pos (by unfold maxLen; simp; omega)]
    rw [e1, Option.bind_some, e3, Option.bind_some, e2, Option.bind_some]
    have hlen : (H.Body ++ Bf.take k).length = H.Body.length + k := by simp; omega
    show Tot (bif (((H.Body ++ Bf.take k).length : Int) == z) then _ else _) _
    by_cases hd : ((H.Body ++ Bf.take k).length : Int) = z
    · have e : (((H.Body ++ Bf.take k).length : Int) == z) = true := by simpa using hd
      rw [e, cond_true, whole_eq hO, Option.bind_some]
      refine .now ⟨fun _ => whole (Bf.drop k) _ (B 1 z) C (by simp), fun h => ?_⟩
      have h' : (bif (((H.Body ++ Bf.take k).length : Int) == z) then true else false) = false := h
      rw [e] at h'
      cases h'
    · have e : (((H.Body ++ Bf.take k).length : Int) == z) = false := by simpa using hd
      rw [e, cond_false]
      have hkb : k = Bf.length := by rcases hk2 with h | h <;> omega
      have hdrop : Bf.drop k = [] := by rw [hkb]; simp
      refine .now ⟨fun h => (by cases h), fun _ => ?_⟩
      show XOk A M (S_Reader.mk A M (Bf.drop k) true (S_Message.mk H.Start H.Fields (H.Body ++ Bf.take k)) (B 1 z) C 0)
      rw [hdrop]
      have hb : bodyB A M (S_Message.mk H.Start H.Fields (H.Body ++ Bf.take k)) = (B 1 z, 0) := hr.body
      exact .inn _ _ _ ⟨hr.start, hr.fields, hb, by show (H.Body ++ Bf.take k).length ≤ 40000; omega, fun _ => hc, fun _ => by show ((H.Body ++ Bf.take k).length : Int) ≤ z; omega, fun h => (by cases h), fun h => (by cases h)⟩ (fun _ => by show ((H.Body ++ Bf.take k).length : Int) < z; omega) (by simp [B])
  · -- chunks
    obtain ⟨g1, g2, g3⟩ := hr.k2 rfl
    obtain ⟨x6, hx6, hq⟩ := CFeed_tot (t := Bf) g1 (by omega)
    show Tot ((chunk_Feed C Bf).bind _) _
    rw [hx6, Option.bind_some]
    rcases hq with hq | hq
    · have e : (x6.2.2.2 != (0 : Int)) = true := by simpa using hq
      rw [e, cond_true, fail_eq, Option.bind_some]
      exact .now ⟨fun h => (by cases h), fun _ => .bad _ hq⟩
    · have e : (x6.2.2.2 != (0 : Int)) = false := by rw [hq.bad]; rfl
      rw [e, cond_false]
      have hl := hr.len
      have hsz := hq.size
      have hso := hq.ok.size
      have e3 : cat H.Body x6.2.1 = some (H.Body ++ x6.2.1) := by unfold cat; rw [chk_pos (by unfold maxLen; omega)]
      have ht := hq.took
      obtain ⟨k, hk⟩ : ∃ k : Nat, x6.2.2.1 = (k : Int) := ⟨x6.2.2.1.toNat, by omega⟩
      have e2 : slc Bf x6.2.2.1 (Bf.length : Int) = some (Bf.drop k) := by
        rw [hk]
        unfold slc
        rw [chk_pos (by omega)]
        show some ((Bf.drop k).take (Bf.length - k)) = _
        rw [List.take_of_length_le (by simp)]
      show Tot ((cat H.Body x6.2.1).bind _) _
      rw [e3, Option.bind_some]
      show Tot ((slc Bf x6.2.2.1 (Bf.length : Int)).bind _) _
      rw [e2, Option.bind_some]
      by_cases hs : x6.1.Stage = 4
      · have e4 : (x6.1.Stage == (4 : Int)) = true := by simpa using hs
        rw [e4, cond_true, whole_eq hO, Option.bind_some]
        exact .now ⟨fun _ => whole (Bf.drop k) _ (B 2 0) C (by simp), fun h => by cases h⟩
      · have e4 : (x6.1.Stage == (4 : Int)) = false := by simpa using hs
        rw [e4, cond_false]
        have hkl := hq.all hs
        have hdrop : Bf.drop k = [] := by rw [show k = Bf.length by omega]; simp
        refine .now ⟨fun h => (by cases h), fun _ => ?_⟩
        show XOk A M (S_Reader.mk A M (Bf.drop k) true (S_Message.mk H.Start H.Fields (H.Body ++ x6.2.1)) (B 2 0) x6.1 0)
        rw [hdrop]
        have hb : bodyB A M (S_Message.mk H.Start H.Fields (H.Body ++ x6.2.1)) = (B 2 0, 0) := hr.body
        have hlen : ((H.Body ++ x6.2.1).length : Int) = x6.1.Size := by rw [List.length_append, hsz, g3]; omega
        exact .inn _ _ _ ⟨hr.start, hr.fields, hb, by show (H.Body ++ x6.2.1).length ≤ 40000; omega, fun h => absurd rfl h, fun h => (by cases h), fun _ => ⟨hq.ok, hs, hlen.symm⟩, fun h => (by cases h)⟩ (fun h => by cases h) (by simp [B])
  · -- up to the end
    have hk3 := hr.k3 rfl
    have hc : C = zeroC := hr.noch (by simp [B])
    have e3 : cat H.Body Bf = some (H.Body ++ Bf) := by unfold cat; rw [chk_pos (by unfold maxLen; omega)]
    show Tot ((cat H.Body Bf).bind _) _
    rw [e3, Option.bind_some]
    by_cases hd : ((H.Body ++ Bf).length : Int) > 20000
    · rw [decide_eq_true hd, cond_true, fail_eq, Option.bind_some]
      exact .now ⟨fun h => (by cases h), fun _ => .bad _ (by simp)⟩
    · rw [decide_eq_false hd, cond_false]
      refine .now ⟨fun h => (by cases h), fun _ => ?_⟩
      have hb : bodyB A M (S_Message.mk H.Start H.Fields (H.Body ++ Bf)) = (B 3 0, 0) := hr.body
      exact .inn (S_Message.mk H.Start H.Fields (H.Body ++ Bf)) _ _ ⟨hr.start, hr.fields, hb, by show (H.Body ++ Bf).length ≤ 40000; omega, fun _ => hc, fun h => (by cases h), fun h => (by cases h), fun _ => by show (H.Body ++ Bf).length ≤ 20000; omega⟩ (fun h => by cases h) (by simp [B])
/-! ### Heads -/
def setBuf (w : S_wire_reading) (b : Bytes) : S_wire_reading := S_wire_reading.mk (S_Reader.mk w.Reader.Asks w.Reader.Method b w.Reader.In w.Reader.Head w.Reader.Body w.Reader.Chunk w.Reader.Bad) w.out
noncomputable def skipB (w : S_wire_reading) (b : Bytes) : Option (S_wire_reading ⊕ S_wire_reading) :=
  (gcall w.Reader.Asks (strings_HasPrefix b ([10] : Bytes))).bind fun x3 => (gcall (w.Reader.Asks && (!x3)) (strings_HasPrefix b ([13, 10] : Bytes))).bind fun x4 =>
  bif (bif w.Reader.Asks then (bif x3 then true else x4) else false) then ((strings_TrimPrefix b ([13] : Bytes)).bind fun x5 => (strings_TrimPrefix x5 ([10] : Bytes)).bind fun x6 => some (.inl (setBuf w x6))) else some (.inr (setBuf w b))
theorem hasPre_len {s p : Bytes} (h : hasPre s p = true) : p.length ≤ s.length := by
  unfold hasPre at h
  obtain ⟨t, rfl⟩ := List.isPrefixOf_iff_prefix.1 h
  simp
theorem skip_tot {w : S_wire_reading} (hb : w.Reader.Buf.length ≤ 50000) : Tot (loopO wire_reading_begin_b1 w) (fun j => ∃ b : Bytes, j = setBuf w b ∧ b.length ≤ w.Reader.Buf.length) := by
  refine loop_tot (fun x : S_wire_reading => x.Reader.Buf.length) (fun x => ∃ b : Bytes, x = setBuf w b ∧ b.length ≤ w.Reader.Buf.length) _ (fun x hx => ?_) w ⟨w.Reader.Buf, rfl, Nat.le_refl _⟩
  obtain ⟨b, rfl, hbl⟩ := hx
  unfold wire_reading_begin_b1
  suffices e : ∀ f : Option (S_wire_reading ⊕ S_wire_reading), f = skipB w b → ((∃ y, f = some (Sum.inl y) ∧ (∃ b : Bytes, y = setBuf w b ∧ b.length ≤ w.Reader.Buf.length) ∧ y.Reader.Buf.length < (setBuf w b).Reader.Buf.length) ∨ ∃ r, f = some (Sum.inr r) ∧ ∃ b : Bytes, r = setBuf w b ∧ b.length ≤ w.Reader.Buf.length) from e _ rfl
  intro f hf
  subst hf
  unfold skipB
  cases hA : w.Reader.Asks with
  | false =>
    right
    rw [gcall_ff rfl, Option.bind_some, gcall_ff (show (false && !(default : Bool)) = false from rfl), Option.bind_some]
    exact ⟨_, rfl, b, rfl, hbl⟩
  | true =>
    rw [gcall_tt rfl, HasPrefix_eq, Option.bind_some]
    have big : b.length ≤ maxLen := by unfold maxLen; omega
    cases h1 : hasPre b [10] with
    | true =>
      left
      rw [gcall_ff (show (true && !true) = false from rfl), Option.bind_some]
      have hl := hasPre_len h1
      have h13 : hasPre b [13] = false := by
        rcases b with _ | ⟨x, b⟩
        · rfl
        · unfold hasPre at h1 ⊢
          simp only [List.isPrefixOf, Bool.and_true, beq_iff_eq] at h1 ⊢
          subst h1
          rfl
      show ∃ y, ((strings_TrimPrefix b ([13] : Bytes)).bind fun x5 => (strings_TrimPrefix x5 ([10] : Bytes)).bind fun x6 => some (Sum.inl (setBuf w x6))) = some (Sum.inl y) ∧ (∃ b : Bytes, y = setBuf w b ∧ b.length ≤ w.Reader.Buf.length) ∧ y.Reader.Buf.length < (setBuf w b).Reader.Buf.length
      rw [TrimP_eq big, h13, cond_false, Option.bind_some, TrimP_eq big, h1, cond_true, Option.bind_some]
      exact ⟨_, rfl, ⟨_, rfl, by simp; omega⟩, by show (b.drop _).length < b.length; simp at hl ⊢; omega⟩
    | false =>
      rw [gcall_tt (show (true && !false) = true from rfl), HasPrefix_eq, Option.bind_some]
      cases h2 : hasPre b [13, 10] with
      | false => right; exact ⟨_, rfl, b, rfl, hbl⟩
      | true =>
        left
        have hl := hasPre_len h2
        have h13 : hasPre b [13] = true := by
          rcases b with _ | ⟨x, b⟩
          · cases h2
          · unfold hasPre at h2 ⊢
            simp only [List.isPrefixOf, Bool.and_eq_true, beq_iff_eq] at h2 ⊢
            exact ⟨h2.1, trivial⟩
        show ∃ y, ((strings_TrimPrefix b ([13] : Bytes)).bind fun x5 => (strings_TrimPrefix x5 ([10] : Bytes)).bind fun x6 => some (Sum.inl (setBuf w x6))) = some (Sum.inl y) ∧ (∃ b : Bytes, y = setBuf w b ∧ b.length ≤ w.Reader.Buf.length) ∧ y.Reader.Buf.length < (setBuf w b).Reader.Buf.length
        rw [TrimP_eq big, h13, cond_true, Option.bind_some, TrimP_eq (by simp; omega), Option.bind_some]
        refine ⟨_, rfl, ⟨_, rfl, ?_⟩, ?_⟩
        · cases hasPre (b.drop ([13] : Bytes).length) [10] <;> simp <;> omega
        · show (bif hasPre (b.drop ([13] : Bytes).length) [10] then _ else _ : Bytes).length < b.length
          cases hasPre (b.drop ([13] : Bytes).length) [10] <;> simp at hl ⊢ <;> omega
noncomputable def begT (rd : Bytes → Option (S_Start × Int)) (j1 : S_wire_reading) (e : Int) (x10 : Bytes × Bytes × Bool) : Option (Bool × S_wire_reading) :=
        (strings_TrimSuffix (x10.1) ([13] : Bytes)).bind fun x11 =>
        (rd x11).bind fun x12 =>
        bif ((x12.2) != (0 : Int)) then
          (wire_reading_fail (S_wire_reading.mk (S_Reader.mk ((j1.Reader).Asks) ((j1.Reader).Method) ((j1.Reader).Buf) ((j1.Reader).In) (S_Message.mk (x12.1) (((j1.Reader).Head).Fields) (((j1.Reader).Head).Body)) ((j1.Reader).Body) ((j1.Reader).Chunk) ((j1.Reader).Bad)) (j1.out)) (x12.2)).bind fun x13 =>
          some ((x13.1), (x13.2))
        else
          (strings_TrimSuffix (x10.2.1) ([10] : Bytes)).bind fun x14 =>
          (strings_TrimSuffix x14 ([13] : Bytes)).bind fun x15 =>
          (head_Parse x15).bind fun x16 =>
          bif ((x16.2) != (0 : Int)) then
            (wire_reading_fail (S_wire_reading.mk (S_Reader.mk ((j1.Reader).Asks) ((j1.Reader).Method) ((j1.Reader).Buf) ((j1.Reader).In) (S_Message.mk (x12.1) (x16.1) (((j1.Reader).Head).Body)) ((j1.Reader).Body) ((j1.Reader).Chunk) ((j1.Reader).Bad)) (j1.out)) (x16.2)).bind fun x17 =>
            some ((x17.1), (x17.2))
          else
            (wire_body (S_Reader.mk ((j1.Reader).Asks) ((j1.Reader).Method) ((j1.Reader).Buf) ((j1.Reader).In) (S_Message.mk (x12.1) (x16.1) (((j1.Reader).Head).Body)) ((j1.Reader).Body) ((j1.Reader).Chunk) ((j1.Reader).Bad))).bind fun x18 =>
            bif ((x18.2) != (0 : Int)) then
              (wire_reading_fail (S_wire_reading.mk (S_Reader.mk ((j1.Reader).Asks) ((j1.Reader).Method) ((j1.Reader).Buf) ((j1.Reader).In) (S_Message.mk (x12.1) (x16.1) (((j1.Reader).Head).Body)) (x18.1) ((j1.Reader).Chunk) ((j1.Reader).Bad)) (j1.out)) (x18.2)).bind fun x19 =>
              some ((x19.1), (x19.2))
            else
              (slc ((j1.Reader).Buf) e (((j1.Reader).Buf).length : Int)).bind fun x20 =>
              bif (bif (((x12.1).Code) != (0 : Int)) then (decide (((x12.1).Code) < (200 : Int))) else false) then
                some (true, (S_wire_reading.mk (S_Reader.mk ((j1.Reader).Asks) ((j1.Reader).Method) x20 ((j1.Reader).In) (S_Message.mk (S_Start.mk ([] : Bytes) ([] : Bytes) (0 : Int) ([] : Bytes) (0 : Int)) ([] : List S_Field) ([] : Bytes)) (S_Body.mk (0 : Int) (0 : Int)) ((j1.Reader).Chunk) ((j1.Reader).Bad)) (j1.out)))
              else
                some (true, (S_wire_reading.mk (S_Reader.mk ((j1.Reader).Asks) ((j1.Reader).Method) x20 true (S_Message.mk (x12.1) (x16.1) (((j1.Reader).Head).Body)) (x18.1) ((j1.Reader).Chunk) ((j1.Reader).Bad)) (j1.out)))
theorem begin_eq (w : S_wire_reading) : wire_reading_begin w = (loopO (wire_reading_begin_b1) w).bind fun j1 => (head_End ((j1.Reader).Buf)).bind fun x7 =>
  bif ((x7.2) == (3 : Int)) then some (false, j1)
  else bif ((x7.2) != (0 : Int)) then (wire_reading_fail j1 (x7.2)).bind fun x8 => some ((x8.1), (x8.2))
  else (slc ((j1.Reader).Buf) 0 (x7.1)).bind fun x9 => (strings_Cut x9 ([10] : Bytes)).bind fun x10 =>
    bif (j1.Reader).Asks then begT start_Parse j1 (x7.1) x10 else begT start_Status j1 (x7.1) x10 := rfl
def RdOk (a : Bool) (n : Nat) (r : S_Start × Int) : Prop := r.2 ≠ 0 ∨ (r.2 = 0 ∧ startB r.1 = true ∧ (r.1.Code == (0 : Int)) = a ∧ SSmall r.1)
theorem read_ok (a : Bool) {l : Bytes} (hl : l.length ≤ 1000000) : Tot (bif a then start_Parse l else start_Status l) (RdOk a l.length) := by
  have hb : ∀ n : Nat, n ≤ l.length → n ≤ maxLen := fun n h => by unfold maxLen; omega
  cases a with
  | true =>
    rw [cond_true, Parse_eq hl]
    refine .now ?_
    rcases parse_cases l with ⟨s, h, h1, h2, h3, h4, h5⟩ | h
    · rw [h]; exact .inr ⟨rfl, h1, by rw [h2]; rfl, ⟨hb _ h3, hb _ h4, by rw [h5]; unfold maxLen; simp⟩⟩
    · rw [h]; exact .inl (by simp)
  | false =>
    rw [cond_false, Status_eq hl]
    refine .now ?_
    rcases status_cases l with ⟨s, h, h1, h2, h3, h4, h5⟩ | h
    · rw [h]; exact .inr ⟨rfl, h1, by simpa using h2, ⟨by rw [h3]; unfold maxLen; simp, by rw [h4]; unfold maxLen; simp, hb _ h5⟩⟩
    · rw [h]; exact .inl (by simp)
theorem begT_tot {a : Bool} {m : Bytes} {rd : Bytes → Option (S_Start × Int)} {w j : S_wire_reading} {e : Int} {x : Bytes × Bytes × Bool} (hrd : ∀ l : Bytes, l.length ≤ 1000000 → Tot (rd l) (RdOk a l.length)) (hw : WI a m w) (hin : w.Reader.In = false)
    (hj : ∃ b : Bytes, j = setBuf w b ∧ b.length ≤ w.Reader.Buf.length) (he : 1 ≤ e ∧ e ≤ (j.Reader.Buf.length : Int)) (hx : x.1.length ≤ 50000 ∧ x.2.1.length ≤ 50000) : Tot (begT rd j e x) (MoreQ a m w) := by
  obtain ⟨b, rfl, hbl⟩ := hj
  obtain ⟨⟨A, M, Bf, I, H, Bd, C, E⟩, O⟩ := w
  obtain ⟨h1, h2, h3, h4, h5, h6, _⟩ := hw
  have ho := h6 hin
  simp only at h1 h2 h3 h4 h5 hin ho hbl
  obtain ⟨o1, o2, o3⟩ := ho
  subst h1 h2 h3 hin o1 o2 o3
  have hmu : mu (S_wire_reading.mk (S_Reader.mk A M Bf false zeroM (B 0 0) zeroC 0) O) = 2 * Bf.length := rfl
  rw [hmu] at h5
  have heb : e ≤ (b.length : Int) := he.2
  have big : ∀ n : Nat, n ≤ 50000 → n ≤ maxLen := fun n h => by unfold maxLen; omega
  unfold begT
  obtain ⟨x11, hx11, hl11⟩ := TrimS_tot 13 (big _ hx.1)
  rw [hx11, Option.bind_some]
  obtain ⟨x12, hx12, hq⟩ := hrd x11 (by omega)
  rw [hx12, Option.bind_some]
  rcases hq with hq | ⟨q0, q1, q2, q3⟩
  · have e1 : (x12.2 != (0 : Int)) = true := by simpa using hq
    rw [e1, cond_true, fail_eq, Option.bind_some]
    exact .now ⟨fun h => (by cases h), fun _ => .bad _ hq⟩
  have e1 : (x12.2 != (0 : Int)) = false := by rw [q0]; rfl
  rw [e1, cond_false]
  obtain ⟨x14, hx14, hl14⟩ := TrimS_tot 10 (big _ hx.2)
  rw [hx14, Option.bind_some]
  obtain ⟨x15, hx15, hl15⟩ := TrimS_tot 13 (s := x14) (big _ (by omega))
  rw [hx15, Option.bind_some]
  obtain ⟨x16, hx16, hf, hfl⟩ := HParse_tot (s := x15) (by omega)
  rw [hx16, Option.bind_some]
  by_cases hb2 : x16.2 = 0
  · have e2 : (x16.2 != (0 : Int)) = false := by rw [hb2]; rfl
    rw [e2, cond_false]
    have hbody := wbody_eq (r := S_Reader.mk A M b false (S_Message.mk x12.1 x16.1 []) (B 0 0) zeroC 0) q3 hf
    show Tot ((wire_body (S_Reader.mk A M b false (S_Message.mk x12.1 x16.1 []) (B 0 0) zeroC 0)).bind _) _
    rw [hbody, Option.bind_some]
    generalize hbb : bodyB A M (S_Message.mk x12.1 x16.1 []) = bb
    by_cases hb3 : bb.2 = 0
    · have e3 : (bb.2 != (0 : Int)) = false := by rw [hb3]; rfl
      show Tot (bif (bb.2 != (0 : Int)) then _ else _) _
      rw [e3, cond_false]
      obtain ⟨k, hk⟩ : ∃ k : Nat, e = (k : Int) := ⟨e.toNat, by omega⟩
      have es : slc b e (b.length : Int) = some (b.drop k) := by
        rw [hk]
        unfold slc
        rw [chk_pos (by omega)]
        show some ((b.drop k).take (b.length - k)) = _
        rw [List.take_of_length_le (by simp)]
      show Tot ((slc b e (b.length : Int)).bind _) _
      rw [es, Option.bind_some]
      have hdl : (b.drop k).length + 1 ≤ Bf.length := by simp; omega
      refine Tot.br (fun _ => .now ⟨fun _ => ?_, fun h => (by cases h)⟩) (fun _ => .now ⟨fun _ => ?_, fun h => (by cases h)⟩)
      · have hm2 : mu (S_wire_reading.mk (S_Reader.mk A M (b.drop k) false zeroM (B 0 0) zeroC 0) O) = 2 * (b.drop k).length := rfl
        exact ⟨⟨rfl, rfl, rfl, by show (b.drop k).length ≤ 50000; omega, by show O.length + mu (S_wire_reading.mk (S_Reader.mk A M (b.drop k) false zeroM (B 0 0) zeroC 0) O) ≤ _; rw [hm2]; omega, fun _ => ⟨rfl, rfl, rfl⟩, fun h => by cases h⟩, by show mu (S_wire_reading.mk (S_Reader.mk A M (b.drop k) false zeroM (B 0 0) zeroC 0) O) < _; rw [hm2, hmu]; omega⟩
      · have hm2 : mu (S_wire_reading.mk (S_Reader.mk A M (b.drop k) true (S_Message.mk x12.1 x16.1 []) bb.1 zeroC 0) O) = 2 * (b.drop k).length + 1 := rfl
        refine ⟨⟨rfl, rfl, rfl, by show (b.drop k).length ≤ 50000; omega, by show O.length + mu (S_wire_reading.mk (S_Reader.mk A M (b.drop k) true (S_Message.mk x12.1 x16.1 []) bb.1 zeroC 0) O) ≤ _; rw [hm2]; omega, fun h => (by cases h), fun _ => ?_⟩, by show mu (S_wire_reading.mk (S_Reader.mk A M (b.drop k) true (S_Message.mk x12.1 x16.1 []) bb.1 zeroC 0) O) < _; rw [hm2, hmu]; omega⟩
        have hbe : bodyB A M (S_Message.mk x12.1 x16.1 []) = (bb.1, 0) := by rw [hbb, ← hb3]
        have hko := bodyB_ok (asks := A) (m := M) (h := S_Message.mk x12.1 x16.1 []) (by rw [hbb]; exact hb3)
        rw [hbb] at hko
        show RIn A M (S_Message.mk x12.1 x16.1 []) bb.1 zeroC
        refine ⟨q3, hf, hbe, Nat.zero_le _, fun _ => rfl, fun hk1 => ?_, fun _ => ⟨zeroC_ok, fun h => (by cases h), rfl⟩, fun _ => Nat.zero_le _⟩
        rcases hko.kind with h | ⟨z, hz0, _, h⟩ | h | h
        · rw [h] at hk1; cases hk1
        · show (([] : Bytes).length : Int) ≤ bb.1.Size
          rw [h]; simpa [B] using hz0
        · rw [h] at hk1; cases hk1
        · rw [h] at hk1; cases hk1
    · have e3 : (bb.2 != (0 : Int)) = true := by simpa using hb3
      show Tot (bif (bb.2 != (0 : Int)) then _ else _) _
      rw [e3, cond_true, fail_eq, Option.bind_some]
      exact .now ⟨fun h => (by cases h), fun _ => .bad _ hb3⟩
  · have e2 : (x16.2 != (0 : Int)) = true := by simpa using hb2
    rw [e2, cond_true, fail_eq, Option.bind_some]
    exact .now ⟨fun h => (by cases h), fun _ => .bad _ hb2⟩
theorem begin_tot {a : Bool} {m : Bytes} {w : S_wire_reading} (hw : WI a m w) (hin : w.Reader.In = false) : Tot (wire_reading_begin w) (MoreQ a m w) := by
  rw [begin_eq]
  refine Tot.bind (skip_tot hw.buf) (fun j hj => ?_)
  obtain ⟨b, hjb, hbl⟩ := hj
  have hjbuf : j.Reader.Buf = b := by rw [hjb]; rfl
  have hbuf := hw.buf
  obtain ⟨x7, hx7, hq⟩ := End_tot (s := j.Reader.Buf) (by rw [hjbuf]; omega)
  rw [hx7, Option.bind_some]
  have fin : ∀ e : Int, e ≠ 0 → MoreQ a m w (false, S_wire_reading.mk (S_Reader.mk j.Reader.Asks j.Reader.Method [] false zeroM (B 0 0) zeroC e) j.out) := fun e he => by
    refine ⟨fun h => (by cases h), fun _ => ?_⟩
    have ea : j.Reader.Asks = a := by rw [hjb]; exact hw.asks
    have em : j.Reader.Method = m := by rw [hjb]; exact hw.meth
    show XOk a m (S_Reader.mk j.Reader.Asks j.Reader.Method [] false zeroM (B 0 0) zeroC e)
    rw [ea, em]
    exact .bad e he
  rcases hq with ⟨h0, h1, h2⟩ | ⟨h3, h4⟩ | h5
  · have e3 : (x7.2 == (3 : Int)) = false := by rw [h0]; rfl
    have e0 : (x7.2 != (0 : Int)) = false := by rw [h0]; rfl
    rw [e3, cond_false, e0, cond_false]
    have es : slc j.Reader.Buf 0 x7.1 = some (j.Reader.Buf.take x7.1.toNat) := by unfold slc; rw [chk_pos (by omega)]; simp
    have hcl := cutC_le 10 (j.Reader.Buf.take x7.1.toNat)
    have htl : (j.Reader.Buf.take x7.1.toNat).length ≤ 50000 := by rw [hjbuf]; simp; omega
    rw [es, Option.bind_some, Cut_one 10 (by unfold maxLen; omega), Option.bind_some]
    have ha : j.Reader.Asks = a := by rw [hjb]; exact hw.asks
    rw [ha]
    have hrd := fun (l : Bytes) (hl : l.length ≤ 1000000) => read_ok a hl
    cases a with
    | true => exact begT_tot (fun l hl => hrd l hl) hw hin ⟨b, hjb, hbl⟩ ⟨h1, h2⟩ ⟨by omega, by omega⟩
    | false => exact begT_tot (fun l hl => hrd l hl) hw hin ⟨b, hjb, hbl⟩ ⟨h1, h2⟩ ⟨by omega, by omega⟩
  · rw [h3]
    refine .now ⟨fun h => (by cases h), fun _ => ?_⟩
    rw [hjbuf] at h4
    subst hjb
    obtain ⟨⟨A, M, Bf, I, H, Bd, C, E⟩, O⟩ := w
    obtain ⟨h1, h2, h3, _, _, h6, _⟩ := hw
    have ho := h6 hin
    simp only at h1 h2 h3 hin ho
    obtain ⟨o1, o2, o3⟩ := ho
    subst h1 h2 h3 hin o1 o2 o3
    exact .out b h4
  · rw [h5]
    show Tot ((wire_reading_fail j 2).bind _) _
    rw [fail_eq, Option.bind_some]
    exact .now (fin 2 (by simp))
theorem feed_loop {a : Bool} {m : Bytes} {w : S_wire_reading} (hw : WI a m w) : Tot (loopO wire_Feed_b1 w) (fun r => XOk a m r.1 ∧ r.2.2 = 0) := by
  refine loop_tot mu (WI a m) _ (fun x hx => ?_) w hw
  unfold wire_Feed_b1
  cases hin : x.Reader.In with
  | true =>
    rw [cond_true]
    obtain ⟨r, hr, q1, q2⟩ := more_tot hx hin
    rw [hr, Option.bind_some]
    cases hb : r.1 with
    | true => left; exact ⟨_, rfl, q1 hb⟩
    | false => right; exact ⟨_, rfl, q2 hb, rfl⟩
  | false =>
    rw [cond_false]
    obtain ⟨r, hr, q1, q2⟩ := begin_tot hx hin
    rw [hr, Option.bind_some]
    cases hb : r.1 with
    | true => left; exact ⟨_, rfl, q1 hb⟩
    | false => right; exact ⟨_, rfl, q2 hb, rfl⟩
end Go.Proofs.YtkfoahoplndelaaGreatDoor
