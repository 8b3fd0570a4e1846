/-
  Plain laws of the plays, 7: which addresses are read as just that host and path; which routes may be.
-/
import Derived.Test.YtkfoahoplndelaaGreatDoorPs6
import Derived.Laws.RangeString
namespace Go.Proofs.YtkfoahoplndelaaGreatDoor
open Go Go.Pm
set_option linter.unusedVariables false
set_option maxRecDepth 100000

/-! ### Where a path begins -/
theorem qget (b : UInt8) : strings_asciiSet_contains qset (b.toNat : Int) = some (b == 47 || b == 63) := by
  have h := b.toNat_lt
  have hq : qset[b.toNat]? = some (b == 47 || b == 63) := by
    unfold qset
    rw [List.getElem?_map, List.getElem?_range h]
    simp
  unfold strings_asciiSet_contains
  rw [chk_pos (by omega), idx_at hq]; rfl
theorem rune_ascii {s : Bytes} {i : Nat} {b : UInt8} (h : s[i]? = some b) (hb : b.toNat < 128) : runeAt s i = b.toNat ∧ widthAt s i = 1 := by
  have hlt := lt_of_get h
  have hs : i < (⟨s.toArray⟩ : ByteArray).size := by simpa [ByteArray.size] using hlt
  have e : ((⟨s.toArray⟩ : ByteArray)[i]'hs) = b := by
    rw [List.getElem?_eq_getElem hlt] at h
    exact Option.some.inj h
  have := decode_ascii ⟨s.toArray⟩ i hs (by rw [e]; exact hb)
  unfold runeAt widthAt
  rw [this, e]; exact ⟨rfl, rfl⟩
theorem IndexRune_q {b : UInt8} (hb : b.toNat < 128) : strings_IndexRune qs (b.toNat : Int) = some (Lib.indexByte qs b) := by
  unfold strings_IndexRune
  have e1 : decide ((0 : Int) ≤ (b.toNat : Int)) = true := by simp
  have e2 : decide ((b.toNat : Int) < (128 : Int)) = true := by simp; omega
  rw [e1, e2, cond_true, cond_true, wrap_u8 (by omega) (by omega), IndexByte_eq, u8_nat]; rfl
theorem qs_no {b : UInt8} (h : (b == 47 || b == 63) = false) : decide (Lib.indexByte qs b ≥ (0 : Int)) = false := by
  rw [indexByte_has]
  simpa [qs] using h
def hostC (b : UInt8) : Bool := !(badH b)
theorem hostC_facts (b : UInt8) (h : badH b = false) : (b == 47 || b == 63) = false ∧ b.toNat < 128 ∧ lowB b = b ∧ (b == 58) = false := by
  have := byte_all (p := fun b => badH b || ((!(b == 47 || b == 63)) && (decide (b.toNat < 128) && ((lowB b == b) && !(b == 58))))) (by kernel_rfl) b
  rw [h, Bool.false_or] at this
  simp only [Bool.and_eq_true, Bool.not_eq_true', decide_eq_true_eq, beq_iff_eq] at this
  exact ⟨this.1, this.2.1, this.2.2.1, this.2.2.2⟩
theorem host_get {h : Bytes} (hh : h.any badH = false) {i : Nat} {b : UInt8} (hb : h[i]? = some b) : badH b = false := by
  cases hc : badH b with
  | false => rfl
  | true =>
    have := List.any_eq_true.2 ⟨b, List.mem_of_getElem? hb, hc⟩
    rw [hh] at this; cases this
theorem IndexAny_at {h p : Bytes} (hh : h.any badH = false) (hl : (h ++ 47 :: p).length ≤ 100000) : strings_IndexAny (h ++ 47 :: p) [47, 63] = some (h.length : Int) := by
  have hlen : (h ++ 47 :: p).length = h.length + (p.length + 1) := by simp
  have hat : (h ++ 47 :: p)[h.length]? = some 47 := by rw [List.getElem?_append_right (Nat.le_refl _), Nat.sub_self]; rfl
  have hin : ∀ i, i < h.length → ∃ b, (h ++ 47 :: p)[i]? = some b ∧ badH b = false := fun i hi => by
    have hx := List.getElem?_eq_getElem hi
    exact ⟨h[i], by rw [List.getElem?_append_left hi]; exact hx, host_get hh hx⟩
  show strings_IndexAny (h ++ 47 :: p) qs = _
  unfold strings_IndexAny
  have e1 : (qs == ([] : Bytes)) = false := rfl
  have e2 : (((qs.length : Nat) : Int) == (1 : Int)) = false := rfl
  rw [e1, e2, cond_false, cond_false]
  unfold strings_shouldUseASCIISet
  rw [Option.bind_some]
  cases decide ((((h ++ 47 :: p).length : Nat) : Int) > (8 : Int)) with
  | true =>
    rw [cond_true, qset_eq, Option.bind_some]
    have hq : qset.length = 256 := by unfold qset; simp
    rw [chk_pos hq]
    show Pm.chk (0 < qset.length) (loopO (strings_IndexAny_b1 (h ++ 47 :: p) (qset, true)) (0 : Int)) = _
    rw [chk_pos (by omega)]
    have key : ∀ (n i : Nat), i + n = h.length → loopO (strings_IndexAny_b1 (h ++ 47 :: p) (qset, true)) (i : Int) = some (h.length : Int) := by
      intro n
      induction n with
      | zero =>
        intro i hi
        have : i = h.length := by omega
        subst this
        have hb : strings_IndexAny_b1 (h ++ 47 :: p) (qset, true) ((h.length : Nat) : Int) = some (.inr (h.length : Int)) := by
          unfold strings_IndexAny_b1
          rw [dlt_true (show h.length < (h ++ 47 :: p).length by omega), cond_true, idx_at hat, Option.bind_some]
          show ((strings_asciiSet_contains qset (((47 : UInt8).toNat : Nat) : Int)).bind _) = _
          rw [qget]; rfl
        rw [loopO_eq, hb]
      | succ n ih =>
        intro i hi
        obtain ⟨b, hb1, hb2⟩ := hin i (by omega)
        have hlt : i < (h ++ 47 :: p).length := by omega
        have hb : strings_IndexAny_b1 (h ++ 47 :: p) (qset, true) (i : Int) = some (.inl ((i + 1 : Nat) : Int)) := by
          unfold strings_IndexAny_b1
          rw [dlt_true hlt, cond_true, idx_at hb1, Option.bind_some]
          show ((strings_asciiSet_contains qset ((b.toNat : Nat) : Int)).bind _) = _
          rw [qget, (hostC_facts b hb2).1, Option.bind_some, cond_false, wrap_inc hlt (big1 (by omega))]
        rw [loopO_eq, hb]
        exact ih (i + 1) (by omega)
    exact key h.length 0 (by omega)
  | false =>
    rw [cond_false]
    have key : ∀ (n i : Nat), i + n = h.length → loopO (strings_IndexAny_b3 (h ++ 47 :: p) qs) i = some (h.length : Int) := by
      intro n
      induction n with
      | zero =>
        intro i hi
        have : i = h.length := by omega
        subst this
        have hb : strings_IndexAny_b3 (h ++ 47 :: p) qs h.length = some (.inr (h.length : Int)) := by
          unfold strings_IndexAny_b3
          have e : decide (h.length < (h ++ 47 :: p).length) = true := by rw [decide_eq_true_eq]; omega
          rw [e, cond_true, (rune_ascii hat (by decide)).1, IndexRune_q (by decide), Option.bind_some]; rfl
        rw [loopO_eq, hb]
      | succ n ih =>
        intro i hi
        obtain ⟨b, hb1, hb2⟩ := hin i (by omega)
        have hlt : i < (h ++ 47 :: p).length := by omega
        obtain ⟨g1, g2, _⟩ := hostC_facts b hb2
        have hb : strings_IndexAny_b3 (h ++ 47 :: p) qs i = some (.inl (i + 1)) := by
          unfold strings_IndexAny_b3
          rw [decide_eq_true hlt, cond_true, (rune_ascii hb1 g2).1, (rune_ascii hb1 g2).2, IndexRune_q g2, Option.bind_some, qs_no g1]; rfl
        rw [loopO_eq, hb]
        exact ih (i + 1) (by omega)
    exact key h.length 0 (by omega)
theorem Last_none {h : Bytes} (hh : h.any badH = false) (hl : h.length ≤ 100000) : strings_LastIndexByte h 58 = some (-1) := by
  unfold strings_LastIndexByte bytealg_LastIndexByteString
  have key : ∀ (n : Nat), n ≤ h.length → loopO (bytealg_LastIndexByteString_b1 h 58) ((n : Int) - 1) = some (-1) := by
    intro n
    induction n with
    | zero => intro _; rw [loopO_eq]; rfl
    | succ n ih =>
      intro hn
      have hx := List.getElem?_eq_getElem (show n < h.length by omega)
      have hb : bytealg_LastIndexByteString_b1 h 58 (((n + 1 : Nat) : Int) - 1) = some (.inl ((n : Int) - 1)) := by
        unfold bytealg_LastIndexByteString_b1
        rw [show ((n + 1 : Nat) : Int) - 1 = (n : Int) by omega]
        have e : decide ((n : Int) ≥ (0 : Int)) = true := by simp
        have e2 := (hostC_facts _ (host_get hh hx)).2.2.2
        have e3 : (((h[n]'(by omega)).toNat : Int) == (58 : Int)) = false := by
          cases hc : (((h[n]'(by omega)).toNat : Int) == (58 : Int)) with
          | false => rfl
          | true =>
            have h1 := eq_of_beq hc
            have : h[n]'(by omega) = 58 := UInt8.toNat_inj.1 (by show (h[n]'(by omega)).toNat = 58; omega)
            rw [this] at e2; cases e2
        rw [e, cond_true, idx_at hx, Option.bind_some, e3, cond_false, wrap_i64 (by omega) (by omega)]
      rw [loopO_eq, hb]
      exact ih (by omega)
  have := key h.length (Nat.le_refl _)
  rw [wrap_i64 (by omega) (by omega), this]; rfl
theorem lower_host {h : Bytes} (hh : h.any badH = false) : lower h = h := by
  unfold lower
  induction h with
  | nil => rfl
  | cons b h ih =>
    rw [List.any_cons, Bool.or_eq_false_iff] at hh
    rw [List.map_cons, (hostC_facts b hh.1).2.2.1, ih hh.2]

/-! ### Which addresses may be -/
def uB (h p : Bytes) : Bool := (!(p.any badU) && (!(p.contains 63) && decide (7 + h.length + p.length ≤ 500))) && (hostB h && hasPre p [47])
def absU (h p : Bytes) : S_Uri := S_Uri.mk true h 0 p false []
theorem write_abs {h p : Bytes} (hh : h.length ≤ 200000) (hp : p.length ≤ 200000) : uri_write (absU h p) = some (http ++ h ++ p) := by
  unfold uri_write absU
  rw [cond_true]
  show ((cat http h).bind fun x1 => bif ((0 : Int) != (0 : Int)) then _ else (cat x1 p).bind fun x8 => bif false then _ else some x8) = _
  rw [cat_ok (big1 (by simp [http]; omega)), Option.bind_some]
  show ((cat (http ++ h) p).bind fun x8 => some x8) = _
  rw [cat_ok (big1 (by simp [http]; omega))]; rfl
theorem uRight_eq {h p : Bytes} (hh : h.length ≤ 200000) (hp : p.length ≤ 200000) : uri_Right (absU h p) = some (uB h p) := by
  unfold uri_Right
  show ((uri_bytes p).bind fun x1 => (gcall (!(!x1)) (uri_bytes [])).bind fun x2 => (gcall (!(bif (!x1) then true else (!x2))) (strings_Contains p ([63] : Bytes))).bind fun x3 =>
    (gcall (!(bif (bif (bif (bif (bif (!x1) then true else (!x2)) then true else x3) then true else (bif true then false else false)) then true else false) then true else false)) (uri_write (absU h p))).bind fun x4 =>
    bif (bif (bif (bif (bif (bif (bif (!x1) then true else (!x2)) then true else x3) then true else (bif true then false else false)) then true else false) then true else false) then true else (decide ((x4.length : Int) > (500 : Int)))) then some false
    else bif true then (uri_host h).bind fun x5 => (gcall x5 (strings_HasPrefix p ([47] : Bytes))).bind fun x6 => some (bif x5 then x6 else false) else _) = _
  have h2 : uri_bytes [] = some true := by rw [bytes_eq (s := []) (big1 (by decide))]; rfl
  rw [bytes_eq (big1 (by omega)), Option.bind_some, gcall_val (fun _ => h2), Option.bind_some, gcall_val (fun _ => Contains_one p 63), Option.bind_some, indexByte_has, gcall_val (fun _ => write_abs hh hp), Option.bind_some, uhost_eq (big1 (by omega)), Option.bind_some, gcall_val (fun _ => HasPrefix_eq p [47]), Option.bind_some]
  have hw : (http ++ h ++ p).length = 7 + h.length + p.length := by simp [http]; omega
  have e : decide ((((http ++ h ++ p).length : Nat) : Int) > (500 : Int)) = !(decide (7 + h.length + p.length ≤ 500)) := by
    rw [hw, Bool.eq_iff_iff]; simp; omega
  unfold uB
  cases hb : p.any badU with
  | true => rfl
  | false =>
    cases hc : p.contains 63 with
    | true => rfl
    | false =>
      show (bif (bif false then true else decide ((((http ++ h ++ p).length : Nat) : Int) > (500 : Int))) then some false else _) = _
      rw [e]
      cases decide (7 + h.length + p.length ≤ 500) with
      | false => rfl
      | true =>
        show some (bif hostB h then (bif hostB h then hasPre p [47] else default) else false) = _
        cases hostB h <;> rfl

/-! ### Read of a text -/
theorem uend2 {s : Bytes} {u : S_Uri} (ok : Bool) (hs : s.length ≤ 1000) (hu : USmall u) :
    Tot ((uri_path s u).bind fun x10 => (gcall (!(!ok)) (uri_Right x10)).bind fun x11 => bif (bif (!ok) then true else (!x11)) then some (zeroU, (20 : Int)) else some (x10, (0 : Int))) (fun r => r.2 = 0 → uri_Right r.1 = some true) := by
  refine .bind (path_tot hs hu) fun x hx => .bind (P := fun b => ok = true → uri_Right x = some b) ?_ fun b hb => .br (fun _ => .now fun h => by exact absurd (show (20 : Int) = 0 from h) (by omega)) fun hno => .now fun _ => ?_
  · obtain ⟨b, hb, _⟩ := uRight_tot hx
    cases ok with
    | false => exact ⟨default, rfl, fun h => by cases h⟩
    | true => exact ⟨b, hb, fun _ => hb⟩
  · cases ok with
    | false => cases hno
    | true =>
      cases b with
      | false => cases hno
      | true => exact hb rfl
theorem uparse2 {s : Bytes} (hs : s.length ≤ 1000000) : Tot (uri_Parse s) (fun r => r.2 = 0 → uri_Right r.1 = some true) := by
  unfold uri_Parse
  refine .br (fun _ => .now fun h => absurd (show (2 : Int) = 0 from h) (by omega)) fun hlen => ?_
  have hlen : s.length ≤ 500 := by have := of_decide_eq_false hlen; omega
  have hg : gslc (decide ((s.length : Int) ≥ (7 : Int))) s 0 (7 : Int) = some (s.take 7) := by
    unfold gslc
    rw [chk_pos (fun h => by have := of_decide_eq_true h; omega)]; rfl
  rw [hg, Option.bind_some]
  refine .bind (.guard (P := fun _ => True) fun _ => .eq (Same_eq (big1 (by simp; omega)) (by decide)) trivial) fun x2 _ => ?_
  refine .br (fun hg7 => ?_) fun _ => uend2 true (by omega) zeroU_small
  have h7 : (7 : Int) ≤ (s.length : Int) := by
    cases h : decide ((s.length : Int) ≥ (7 : Int)) with
    | false => rw [h] at hg7; cases hg7
    | true => exact of_decide_eq_true h
  refine .bind (slc_tot (by omega)) fun x3 h3 => ?_
  have hx3 : x3.length ≤ 500 := by rw [h3]; simp; omega
  refine .bind (IndexAny_tot (big1 (by omega))) fun x4 h4 => .br (fun _ => ?_) fun hge => ?_
  · refine .bind (slc_tot (by omega)) fun x5 h5 => ?_
    have hx5 : x5.length ≤ 1000 := by rw [h5]; simp; omega
    refine .bind (place_tot hx5 zeroU_small) fun x6 h6 => .bind (slc_tot (by omega)) fun x7 h7 => ?_
    have hx7 : x7.length ≤ 500 := by rw [h7]; simp
    refine .bind (P := fun _ => True) ?_ fun x8 _ => .br (fun _ => ?_) fun _ => uend2 x6.2 (by omega) h6
    · cases x7 with
      | nil => exact ⟨_, rfl, trivial⟩
      | cons b l => exact ⟨b, rfl, trivial⟩
    · rw [cat_ok (big1 (by simp; omega)), Option.bind_some]
      exact uend2 x6.2 (by simp; omega) h6
  · have hge := of_decide_eq_false hge
    refine .bind (slc_tot (by omega)) fun x5 h5 => ?_
    have hx5 : x5.length ≤ 1000 := by rw [h5]; simp; omega
    refine .bind (place_tot hx5 zeroU_small) fun x6 h6 => .bind (slc_tot (by omega)) fun x7 h7 => ?_
    have hx7 : x7.length ≤ 500 := by rw [h7]; simp; omega
    refine .bind (P := fun _ => True) ?_ fun x8 _ => .br (fun _ => ?_) fun _ => uend2 x6.2 (by omega) h6
    · cases x7 with
      | nil => exact ⟨_, rfl, trivial⟩
      | cons b l => exact ⟨b, rfl, trivial⟩
    · rw [cat_ok (big1 (by simp; omega)), Option.bind_some]
      exact uend2 x6.2 (by simp; omega) h6
theorem uparse_good {h p : Bytes} (hb : uB h p = true) : uri_Parse (http ++ h ++ p) = some (absU h p, 0) := by
  have hb' := hb
  unfold uB hostB at hb
  simp only [Bool.and_eq_true, Bool.not_eq_true', decide_eq_true_eq] at hb
  obtain ⟨⟨k1, k2, k3⟩, ⟨⟨k4, k5⟩, k6⟩, k7⟩ := hb
  obtain ⟨p', rfl⟩ : ∃ p', p = 47 :: p' := by
    cases p with
    | nil => cases k7
    | cons b p' =>
      have : (b == 47) = true := by
        unfold hasPre at k7
        simp only [List.isPrefixOf, Bool.and_true] at k7
        rw [beq_iff_eq] at k7 ⊢; exact k7.symm
      exact ⟨p', by rw [eq_of_beq this]⟩
  have hw : (http ++ h ++ 47 :: p').length = 7 + h.length + (47 :: p').length := by simp [http]; omega
  have hl2 : (h ++ 47 :: p').length = h.length + (47 :: p').length := by simp
  have h7 : (http : Bytes).length = 7 := rfl
  unfold uri_Parse
  have e0 : decide ((((http ++ h ++ 47 :: p').length : Nat) : Int) > (500 : Int)) = false := by rw [hw, decide_eq_false_iff_not]; omega
  have e1' : decide ((((http ++ h ++ 47 :: p').length : Nat) : Int) ≥ (7 : Int)) = true := by rw [hw, decide_eq_true_eq]; omega
  have e1 : gslc true (http ++ h ++ 47 :: p') 0 (7 : Int) = some http := by
    unfold gslc
    rw [chk_pos (fun _ => by omega)]
    show some ((http ++ h ++ 47 :: p').take 7) = _
    rw [List.append_assoc, List.take_append_of_le_length (by rw [h7]; exact Nat.le_refl _)]; rfl
  have e2 : text_Same http ([104, 116, 116, 112, 58, 47, 47] : Bytes) = some true := by rw [Same_eq (by decide) (by decide)]; rfl
  have e4 : slc (http ++ h ++ 47 :: p') (7 : Int) (((http ++ h ++ 47 :: p').length : Nat) : Int) = some (h ++ 47 :: p') := by
    unfold slc
    rw [chk_pos (by omega)]
    show some (((http ++ h ++ 47 :: p').drop 7).take ((http ++ h ++ 47 :: p').length - 7)) = _
    rw [List.append_assoc, show (7 : Nat) = http.length from rfl, List.drop_left, List.take_of_length_le (by simp)]
  have e5 := IndexAny_at (p := p') k6 (by rw [hl2]; omega)
  have e5' : decide ((h.length : Int) < (0 : Int)) = false := by rw [decide_eq_false_iff_not]; omega
  have e6 : slc (h ++ 47 :: p') 0 (h.length : Int) = some h := by
    unfold slc
    rw [chk_pos (by omega)]
    show some ((h ++ 47 :: p').take (h.length - 0)) = _
    rw [Nat.sub_zero, List.take_left]
  have e7 : uri_place h zeroU = some (S_Uri.mk true h 0 [] false [], true) := by
    unfold uri_place
    rw [Lower_eq (big1 (by omega)), lower_host k6, Option.bind_some, Last_none k6 (by omega)]; rfl
  have e8 : slc (h ++ 47 :: p') (h.length : Int) (((h ++ 47 :: p').length : Nat) : Int) = some (47 :: p') := by
    unfold slc
    rw [chk_pos (by omega)]
    show some (((h ++ 47 :: p').drop h.length).take ((h ++ 47 :: p').length - h.length)) = _
    rw [List.drop_left, List.take_of_length_le (by simp)]
  have e9 : gidx (!((47 :: p' : Bytes) == ([] : Bytes))) (47 :: p') (0 : Int) = some 47 := rfl
  have e10 : (bif ((47 :: p' : Bytes) == ([] : Bytes)) then true else (((47 : UInt8).toNat : Int) == (63 : Int))) = false := rfl
  have e11 : uri_path (47 :: p') (S_Uri.mk true h 0 [] false []) = some (absU h (47 :: p')) := by
    unfold uri_path
    rw [Cut_one 63 (big1 (by omega)), Option.bind_some]
    have : cutC 63 (47 :: p') = (47 :: p', [], false) := by
      rcases cutC_index 63 (47 :: p') with ⟨_, h⟩ | ⟨i, h1, _, _⟩
      · exact h
      · have := indexByte_has (47 :: p') 63
        rw [h1, k2] at this
        simp at this
    rw [this]; rfl
  have e12 := uRight_eq (h := h) (p := 47 :: p') (by omega) (by omega)
  rw [e0, cond_false, e1', e1, Option.bind_some, gcall_val (fun _ => e2), Option.bind_some, cond_true, cond_true, cond_true, e4, Option.bind_some, e5, Option.bind_some, e5', cond_false, e6, Option.bind_some]
  show ((uri_place h zeroU).bind fun x15 => _) = _
  rw [e7, Option.bind_some, e8, Option.bind_some, e9, Option.bind_some, e10, cond_false, e11, Option.bind_some, gcall_val (fun _ => e12), Option.bind_some, hb']
  rfl
/-- What is read of it is just that. -/
def sameU (x : S_Uri × Int) (h p : Bytes) : Bool := bif ((x.2) == (0 : Int)) then ((((x.1).Abs) == true) && ((((x.1).Host) == h) && ((((x.1).Port) == (0 : Int)) && ((((x.1).Path) == p) && ((((x.1).Asks) == false) && ((((x.1).Query) == ([] : Bytes)) && true)))))) else false
theorem uparse_is {h p : Bytes} (hh : h.length ≤ 200000) (hp : p.length ≤ 200000) : Tot (uri_Parse (http ++ h ++ p)) (fun x => sameU x h p = uB h p) := by
  have hl : (http ++ h ++ p).length ≤ 1000000 := by simp [http]; omega
  cases hb : uB h p with
  | true => exact ⟨_, uparse_good hb, by unfold sameU absU; simp⟩
  | false =>
    obtain ⟨x, h1, h2⟩ := uparse2 hl
    refine ⟨x, h1, ?_⟩
    cases hs : sameU x h p with
    | false => first | rfl | exact hs
    | true =>
      unfold sameU at hs
      rw [cand] at hs
      simp only [Bool.and_eq_true, beq_iff_eq, and_true] at hs
      obtain ⟨g0, g1, g2, g3, g4, g5, g6⟩ := hs
      have hx : x.1 = absU h p := by
        obtain ⟨⟨a, b, c, d, e, f⟩, n⟩ := x
        simp only at g1 g2 g3 g4 g5 g6
        subst g1 g2 g3 g4 g5 g6
        rfl
      have := h2 g0
      rw [hx, uRight_eq hh hp, hb] at this
      cases this

/-! ### Routes -/
def rB (r : S_Route) : Bool := (((r.Host == ([] : Bytes)) || uB r.Host [47]) && uB r.Origin [47]) && (uB [104] r.Prefix && decide (r.Prefix.length ≤ 100))
theorem rhost_eq {s : Bytes} (hs : s.length ≤ 100000) : route_host s = some (uB s [47]) := by
  obtain ⟨x, h1, h2⟩ := uparse_is (h := s) (p := [47]) (by omega) (by decide)
  unfold route_host
  rw [cat_ok (big1 (by simp; omega)), Option.bind_some, cat_ok (big1 (by simp; omega)), Option.bind_some]
  show ((uri_Parse (http ++ s ++ [47])).bind fun x3 => some (sameU x3 s [47])) = _
  rw [h1, Option.bind_some, h2]
theorem rright_eq {r : S_Route} (h : RSm r) : route_right r = some (rB r) := by
  have h1 := h.host
  have h2 := h.pre
  have h3 := h.origin
  obtain ⟨x, k1, k2⟩ := uparse_is (h := [104]) (p := r.Prefix) (by decide) (by omega)
  unfold route_right
  rw [cat_ok (big1 (by simp; omega)), Option.bind_some]
  show ((uri_Parse (http ++ [104] ++ r.Prefix)).bind fun x2 => (gcall (!(r.Host == ([] : Bytes))) (route_host (r.Host))).bind fun x3 => (gcall (bif (r.Host == ([] : Bytes)) then true else x3) (route_host (r.Origin))).bind fun x4 =>
    some (bif (bif (bif (bif (r.Host == ([] : Bytes)) then true else x3) then x4 else false) then sameU x2 [104] r.Prefix else false) then (decide (((r.Prefix).length : Int) ≤ (100 : Int))) else false)) = _
  rw [k1, Option.bind_some, k2, gcall_val (fun _ => rhost_eq h1), Option.bind_some, gcall_val (fun _ => rhost_eq h3), Option.bind_some]
  have e : decide (((r.Prefix).length : Int) ≤ (100 : Int)) = decide (r.Prefix.length ≤ 100) := by rw [Bool.eq_iff_iff]; simp; omega
  rw [e]
  unfold rB
  cases (r.Host == ([] : Bytes)) <;> cases uB r.Host [47] <;> cases uB r.Origin [47] <;> cases uB [104] r.Prefix <;> rfl
theorem rr_rB {r : S_Route} (h : RSm r) : rr r = rB r := by
  have := rr_eq h
  rw [rright_eq h] at this
  exact (Option.some.inj this).symm
end Go.Proofs.YtkfoahoplndelaaGreatDoor
