/-
  Plain laws of the plays, 9: any text, read as the document says. ScriptReads holds.
-/
import Derived.Test.YtkfoahoplndelaaGreatDoorPs8
import Derived.Test.YtkfoahoplndelaaGreatDoorIm3
namespace Go.Proofs.YtkfoahoplndelaaGreatDoor
open Go Go.Pm
set_option linter.unusedVariables false
set_option maxRecDepth 100000

/-! ### Words -/
theorem rcut_eq {s : Bytes} (c : UInt8) (hs : s.length ≤ 1000000) : intarsiaref25_cut s (c.toNat : Int) = some (cutC c s) := by
  unfold intarsiaref25_cut
  have key : ∀ (rest : Bytes) (i : Nat), s.drop i = rest → i ≤ s.length → loopO (intarsiaref25_cut_b1 s (c.toNat : Int)) (i : Int) = some (s.take i ++ (cutC c rest).1, (cutC c rest).2) := by
    intro rest
    induction rest with
    | nil =>
      intro i hd hi
      have hi' : i = s.length := by
        have := congrArg List.length hd
        rw [List.length_drop] at this
        simp at this; omega
      subst hi'
      have hb : intarsiaref25_cut_b1 s (c.toNat : Int) (s.length : Int) = some (.inr (s, [], false)) := by
        unfold intarsiaref25_cut_b1
        rw [dlt_self]; rfl
      rw [loopO_eq, hb, List.take_length]
      show some (s, ([] : Bytes), false) = some (s ++ [], [], false)
      rw [List.append_nil]
    | cons x rest ih =>
      intro i hd hi
      have hx : s[i]? = some x := by
        have := congrArg (fun l => l[0]?) hd
        simpa using this
      have hlt := lt_of_get hx
      have hd' : s.drop (i + 1) = rest := by
        have := congrArg List.tail hd
        simpa using this
      have h3 : slc s 0 (i : Int) = some (s.take i) := by unfold slc; rw [chk_pos (by omega)]; simp
      have h4 : slc s ((i + 1 : Nat) : Int) (s.length : Int) = some rest := by
        unfold slc
        rw [chk_pos (by omega)]
        show some ((s.drop (i + 1)).take (s.length - (i + 1))) = _
        rw [List.take_of_length_le (by rw [List.length_drop]; exact Nat.le_refl _), hd']
      have hb : intarsiaref25_cut_b1 s (c.toNat : Int) (i : Int) = some (bif x == c then .inr (s.take i, rest, true) else .inl ((i + 1 : Nat) : Int)) := by
        unfold intarsiaref25_cut_b1
        rw [dlt_true hlt, cond_true, idx_at hx, Option.bind_some, nat_beq, wrap_inc hlt (big1 hs), h3, h4]
        cases (x == c) <;> rfl
      rw [loopO_eq, hb]
      unfold cutC
      cases (x == c) with
      | true =>
        show some (s.take i, rest, true) = some (s.take i ++ [], rest, true)
        rw [List.append_nil]
      | false =>
        show loopO _ _ = some (s.take i ++ (x :: (cutC c rest).1), (cutC c rest).2)
        rw [ih (i + 1) hd' hlt, List.take_add_one, hx]
        simp
  have := key s 0 rfl (Nat.zero_le _)
  rw [List.take_zero, List.nil_append] at this
  exact this
theorem cutC_no (c : UInt8) : ∀ (s : Bytes), (cutC c s).1.contains c = false
  | [] => rfl
  | x :: s => by
    unfold cutC
    cases hx : (x == c) with
    | true => rfl
    | false =>
      show (x :: (cutC c s).1).contains c = false
      rw [List.contains_cons, cutC_no c s, Bool.or_false, BEq.comm]; exact hx
theorem cutC_all (c : UInt8) (s : Bytes) (h : (cutC c s).2.2 = false) : cutC c s = (s, [], false) := by
  rcases cutC_index c s with ⟨_, h1⟩ | ⟨i, _, _, h1⟩
  · exact h1
  · rw [h1] at h; cases h
theorem split_cut (s : Bytes) : Lib.split s [32] = bif (cutC 32 s).2.2 then (cutC 32 s).1 :: Lib.split (cutC 32 s).2.1 [32] else [s] := by
  have hno : noSp (cutC 32 s).1 = true := by unfold noSp; rw [cutC_no]; rfl
  cases hc : (cutC 32 s).2.2 with
  | true =>
    have := cutC_back 32 s hc
    rw [cond_true]
    conv => lhs; rw [this]
    exact split_at _ hno
  | false =>
    have := cutC_all 32 s hc
    rw [this] at hno
    exact split_no hno
def padW (w : List Bytes) : List Bytes := w ++ List.replicate (4 - w.length) []
theorem rsplit_eq {s : Bytes} (hs : s.length ≤ 100000) : intarsiaref25_split s = some (padW (Lib.split s [32])) := by
  have key : ∀ (n : Nat) (s : Bytes) (acc : List Bytes), s.length ≤ n → acc.length + s.length ≤ 100000 → loopO intarsiaref25_split_b1 (s, acc) = some (acc ++ Lib.split s [32]) := by
    intro n
    induction n with
    | zero =>
      intro s acc hn _
      have : s = [] := List.eq_nil_of_length_eq_zero (by omega)
      subst this
      have hb : intarsiaref25_split_b1 (([] : Bytes), acc) = some (.inr (acc ++ [[]])) := by
        unfold intarsiaref25_split_b1
        dsimp only
        have := rcut_eq (s := []) 32 (by decide)
        rw [show (32 : Int) = (((32 : UInt8).toNat : Nat) : Int) from rfl, this, Option.bind_some, app_ok (by simp; omega) (by omega), Option.bind_some]
        rfl
      rw [loopO_eq, hb]; rfl
    | succ n ih =>
      intro s acc hn ha
      have hle := cutC_le 32 s
      have hb : intarsiaref25_split_b1 (s, acc) = some (bif (cutC 32 s).2.2 then .inl ((cutC 32 s).2.1, acc ++ [(cutC 32 s).1]) else .inr (acc ++ [(cutC 32 s).1])) := by
        unfold intarsiaref25_split_b1
        dsimp only
        have := rcut_eq (s := s) 32 (by omega)
        rw [show (32 : Int) = (((32 : UInt8).toNat : Nat) : Int) from rfl, this, Option.bind_some, app_ok (by simp; omega) (by omega), Option.bind_some]
        cases (cutC 32 s).2.2 <;> rfl
      rw [loopO_eq, hb, split_cut s]
      cases hc : (cutC 32 s).2.2 with
      | true =>
        have h1 := congrArg List.length (cutC_back 32 s hc)
        simp at h1
        show loopO _ _ = _
        rw [ih _ _ (by omega) (by simp; omega), cond_true]
        simp
      | false =>
        rw [cutC_all 32 s hc]; rfl
  have pad : ∀ (n : Nat) (w : List Bytes), 4 - w.length = n → w.length ≤ 200000 → loopO intarsiaref25_split_b2 w = some (padW w) := by
    intro n
    induction n with
    | zero =>
      intro w hw _
      have hb : intarsiaref25_split_b2 w = some (.inr w) := by
        unfold intarsiaref25_split_b2
        rw [show decide ((w.length : Int) < (4 : Int)) = false by simp; omega]; rfl
      rw [loopO_eq, hb]
      unfold padW
      rw [hw]; simp
    | succ n ih =>
      intro w hw hl
      have hb : intarsiaref25_split_b2 w = some (.inl (w ++ [[]])) := by
        unfold intarsiaref25_split_b2
        rw [show decide ((w.length : Int) < (4 : Int)) = true by simp; omega, cond_true, app_ok (by simp; omega) (by omega)]; rfl
      rw [loopO_eq, hb]
      show loopO _ _ = _
      rw [ih (w ++ [[]]) (by simp; omega) (by simp; omega)]
      unfold padW
      rw [hw, show 4 - (w ++ [([] : Bytes)]).length = n by simp; omega, List.replicate_succ]
      simp
  have hcnt := split_count (s := s)
  unfold intarsiaref25_split
  rw [key s.length s [] (Nat.le_refl _) (by simp; omega), Option.bind_some, List.nil_append, pad _ _ rfl (by omega)]; rfl
theorem pad_idx (w : List Bytes) (k : Nat) (hk : k < 4) : idx (padW w) (k : Int) = some (w.getD k []) := by
  refine idx_at ?_
  unfold padW
  rw [List.getD_eq_getElem?_getD]
  by_cases h : k < w.length
  · rw [List.getElem?_append_left h, List.getElem?_eq_getElem h]; rfl
  · rw [List.getElem?_append_right (by omega), List.getElem?_replicate, if_pos (by omega), List.getElem?_eq_none (by omega)]; rfl

/-! ### Numbers and bytes of a word -/
theorem value_tot {s : Bytes} (hs : s.length ≤ 1000000) : Tot (intarsiaref25_value s) (fun _ => True) := by
  unfold intarsiaref25_value
  refine loop_tot (fun x : Int × Int => s.length - x.2.toNat) (fun x => 0 ≤ x.2 ∧ x.2 ≤ s.length) _ (fun x hx => ?_) _ ⟨Int.le_refl _, by simp⟩
  obtain ⟨n, j⟩ := x
  obtain ⟨h1, h2⟩ := hx
  simp only at h1 h2
  obtain ⟨i, rfl⟩ : ∃ i : Nat, j = i := ⟨j.toNat, by omega⟩
  unfold intarsiaref25_value_b1
  dsimp only
  by_cases h : i < s.length
  · rw [dlt_true h, cond_true, idx_at (List.getElem?_eq_getElem h), Option.bind_some, wrap_inc h (big1 hs)]
    cases (bif (bif (decide (((s[i].toNat : Nat) : Int) < (48 : Int))) then true else (decide (((s[i].toNat : Nat) : Int) > (57 : Int)))) then true else (decide (n > (1000000 : Int)))) with
    | true => exact .inr ⟨_, rfl, trivial⟩
    | false => exact .inl ⟨_, rfl, ⟨by simp; omega, by simp; omega⟩, by simp; omega⟩
  · have hi : i = s.length := by omega
    subst hi
    rw [dlt_self]; exact .inr ⟨_, rfl, trivial⟩
theorem valF_ge : ∀ (t : Bytes) (z : Int), 0 ≤ z → t.all isDig = true → z ≤ valF t z
  | [], z, _, _ => Int.le_refl _
  | x :: t, z, hz, h => by
    rw [List.all_cons, Bool.and_eq_true] at h
    have := dv_of h.1
    have := valF_ge t (z * 10 + dv x) (by omega) h.2
    unfold valF; omega
theorem dig_byte {b : UInt8} (h : isDig b = true) : decide ((b.toNat : Int) < (48 : Int)) = false ∧ decide ((b.toNat : Int) > (57 : Int)) = false ∧ IntKind.i64.wrap (IntKind.u8.wrap ((b.toNat : Int) - (48 : Int))) = dv b := by
  have := byte_all (p := fun b => !(isDig b) || (!(decide ((b.toNat : Int) < (48 : Int))) && (!(decide ((b.toNat : Int) > (57 : Int))) && decide (IntKind.i64.wrap (IntKind.u8.wrap ((b.toNat : Int) - (48 : Int))) = dv b)))) (by kernel_rfl) b
  rw [h, Bool.not_true, Bool.false_or] at this
  simp only [Bool.and_eq_true, Bool.not_eq_true', decide_eq_true_eq] at this
  exact this
theorem value_dg {n : Int} (h : 0 ≤ n ∧ n ≤ 100000) : intarsiaref25_value (dg n) = some n := by
  have hl := dg_le h
  have hall : (dg n).all isDig = true := digits_all _
  have hval : valF (dg n) 0 = n := by unfold dg; rw [digits_val]; omega
  generalize hg : dg n = s at hl hall hval
  unfold intarsiaref25_value
  have key : ∀ (rest : Bytes) (i : Nat) (z : Int), s.drop i = rest → i ≤ s.length → 0 ≤ z → rest.all isDig = true → valF rest z ≤ 100000 → loopO (intarsiaref25_value_b1 s) (z, (i : Int)) = some (valF rest z) := by
    intro rest
    induction rest with
    | nil =>
      intro i z hd hi _ _ _
      have hi' : i = s.length := by
        have := congrArg List.length hd
        rw [List.length_drop] at this
        simp at this; omega
      subst hi'
      rw [loopO_eq]
      unfold intarsiaref25_value_b1
      dsimp only
      rw [dlt_self]; rfl
    | cons x rest ih =>
      intro i z hd hi hz hall hv
      have hx : s[i]? = some x := by
        have := congrArg (fun l => l[0]?) hd
        simpa using this
      have hlt := lt_of_get hx
      have hd' : s.drop (i + 1) = rest := by
        have := congrArg List.tail hd
        simpa using this
      rw [List.all_cons, Bool.and_eq_true] at hall
      obtain ⟨d1, d2, d3⟩ := dig_byte hall.1
      have dv1 := dv_of hall.1
      have hge := valF_ge rest (z * 10 + dv x) (by omega) hall.2
      have hvx : valF (x :: rest) z = valF rest (z * 10 + dv x) := rfl
      have hb : intarsiaref25_value_b1 s (z, (i : Int)) = some (.inl (z * 10 + dv x, ((i + 1 : Nat) : Int))) := by
        unfold intarsiaref25_value_b1
        dsimp only
        have e3 : decide (z > (1000000 : Int)) = false := by rw [decide_eq_false_iff_not]; omega
        rw [dlt_true hlt, cond_true, idx_at hx, Option.bind_some, d1, d2, d3, e3, cond_false, cond_false, cond_false, wrap_inc hlt (big1 (by omega)), wrap_i64 (n := (10 : Int) * z) (by omega) (by omega), wrap_i64 (by omega) (by omega), Int.mul_comm]
      rw [loopO_eq, hb]
      show loopO _ _ = _
      rw [ih (i + 1) _ hd' hlt (by omega) hall.2 (by omega)]; rfl
  have := key s 0 0 rfl (Nat.zero_le _) (Int.le_refl _) hall (by omega)
  rw [hval] at this
  exact this
theorem digit_tot (b : UInt8) : ∃ v, intarsiaref25_digit (b.toNat : Int) = some v := by
  have := byte_all (p := fun b => (intarsiaref25_digit (b.toNat : Int)).isSome) (by kernel_rfl) b
  exact Option.isSome_iff_exists.1 this
theorem rbytes_tot {s : Bytes} (hs : s.length ≤ 100000) : Tot (intarsiaref25_bytes s) (fun _ => True) := by
  unfold intarsiaref25_bytes
  refine .bind (P := fun _ => True) ?_ fun x _ => .now trivial
  refine loop_tot (fun x : Bytes × Int => s.length - x.2.toNat) (fun x => 0 ≤ x.2 ∧ x.2 ≤ s.length ∧ (x.1.length : Int) ≤ x.2) _ (fun x hx => ?_) _ ⟨Int.le_refl _, by simp, by simp⟩
  obtain ⟨acc, j⟩ := x
  obtain ⟨h1, h2, h3⟩ := hx
  simp only at h1 h2 h3
  obtain ⟨i, rfl⟩ : ∃ i : Nat, j = i := ⟨j.toNat, by omega⟩
  unfold intarsiaref25_bytes_b1
  dsimp only
  have w1 : IntKind.i64.wrap ((i : Int) + (1 : Int)) = ((i + 1 : Nat) : Int) := by rw [wrap_i64 (by omega) (by omega)]; simp
  have w2 : IntKind.i64.wrap ((i : Int) + (2 : Int)) = ((i + 2 : Nat) : Int) := by rw [wrap_i64 (by omega) (by omega)]; simp
  rw [w1, w2]
  by_cases h : i + 1 < s.length
  · obtain ⟨u, hu⟩ := digit_tot (s[i]'(by omega))
    obtain ⟨v, hv⟩ := digit_tot (s[i + 1]'h)
    rw [dlt_true h, cond_true, idx_at (List.getElem?_eq_getElem (show i < s.length by omega)), Option.bind_some, hu, Option.bind_some, idx_at (List.getElem?_eq_getElem h), Option.bind_some, hv, Option.bind_some, app_ok (by simp; omega) (by omega), Option.bind_some]
    exact .inl ⟨_, rfl, ⟨by simp; omega, by simp; omega, by simp; omega⟩, by simp; omega⟩
  · have : decide (((i + 1 : Nat) : Int) < (s.length : Int)) = false := by rw [decide_eq_false_iff_not]; omega
    rw [this]; exact .inr ⟨_, rfl, trivial⟩
noncomputable def hexV (b : UInt8) : Bool := match intarsiaref25_digit ((hexit (b.toNat / 16)).toNat : Int), intarsiaref25_digit ((hexit (b.toNat % 16)).toNat : Int) with
  | some x, some y => u8 (IntKind.u8.wrap ((IntKind.u8.wrap ((16 : Int) * x)) + y)) == b
  | _, _ => false
theorem rbytes_hex {t : Bytes} (ht : t.length ≤ 100000) : intarsiaref25_bytes (hexW t) = some t := by
  have hlen := hexW_len t
  unfold intarsiaref25_bytes
  have key : ∀ (r acc : Bytes) (i : Nat), (hexW t).drop i = hexW r → i ≤ (hexW t).length → acc.length + r.length ≤ 100000 → loopO (intarsiaref25_bytes_b1 (hexW t)) (acc, (i : Int)) = some (acc ++ r) := by
    intro r
    induction r with
    | nil =>
      intro acc i hd hi _
      have hi' : i = (hexW t).length := by
        have := congrArg List.length hd
        rw [List.length_drop, hexW_len []] at this
        simp at this; omega
      rw [loopO_eq]
      unfold intarsiaref25_bytes_b1
      dsimp only
      have w1 : IntKind.i64.wrap ((i : Int) + (1 : Int)) = ((i + 1 : Nat) : Int) := by rw [wrap_i64 (by omega) (by omega)]; simp
      have : decide (((i + 1 : Nat) : Int) < ((hexW t).length : Int)) = false := by rw [decide_eq_false_iff_not]; omega
      rw [w1, this]; simp
    | cons b r ih =>
      intro acc i hd hi ha
      have e : hexW (b :: r) = hexit (b.toNat / 16) :: hexit (b.toNat % 16) :: hexW r := rfl
      rw [e] at hd
      have hx : (hexW t)[i]? = some (hexit (b.toNat / 16)) := by
        have := congrArg (fun l => l[0]?) hd
        simpa using this
      have hy : (hexW t)[i + 1]? = some (hexit (b.toNat % 16)) := by
        have := congrArg (fun l => l[1]?) hd
        simpa using this
      have hd' : (hexW t).drop (i + 2) = hexW r := by
        have := congrArg (fun l => l.drop 2) hd
        simpa [List.drop_drop] using this
      have hlt := lt_of_get hy
      have hb := byte_all (p := hexV) (by kernel_rfl) b
      unfold hexV at hb
      split at hb
      case h_2 => cases hb
      rename_i x y hx' hy'
      have hbody : intarsiaref25_bytes_b1 (hexW t) (acc, (i : Int)) = some (.inl (acc ++ [b], ((i + 2 : Nat) : Int))) := by
        unfold intarsiaref25_bytes_b1
        dsimp only
        have w1 : IntKind.i64.wrap ((i : Int) + (1 : Int)) = ((i + 1 : Nat) : Int) := by rw [wrap_i64 (by omega) (by omega)]; simp
        have w2 : IntKind.i64.wrap ((i : Int) + (2 : Int)) = ((i + 2 : Nat) : Int) := by rw [wrap_i64 (by omega) (by omega)]; simp
        rw [w1, w2, dlt_true hlt, cond_true, idx_at hx, Option.bind_some, hx', Option.bind_some, idx_at hy, Option.bind_some, hy', Option.bind_some, eq_of_beq hb, app_ok (by simp at ha ⊢; omega) (by omega), Option.bind_some]
      rw [loopO_eq, hbody]
      show loopO _ _ = _
      rw [ih (acc ++ [b]) (i + 2) hd' (by omega) (by simp at ha ⊢; omega)]
      simp
  have := key t [] 0 rfl (Nat.zero_le _) (by simp; omega)
  show ((loopO (intarsiaref25_bytes_b1 (hexW t)) (([] : List UInt8), ((0 : Nat) : Int)) : Option (List UInt8)).bind fun j1 => some j1) = _
  rw [this]; rfl

/-! ### Deeds -/
theorem rDeed_tot {s : Bytes} (hs : s.length ≤ 100000) : Tot (intarsiaref25_Deed s) (fun _ => True) := by
  have hw : ∀ k : Nat, k < 4 → idx (padW (Lib.split s [32])) (k : Int) = some ((Lib.split s [32]).getD k []) := fun k hk => pad_idx _ k hk
  have hl : ∀ k : Nat, ((Lib.split s [32]).getD k []).length ≤ 100000 := fun k => Nat.le_trans (getD_small k) hs
  have p0 := hw 0 (by omega)
  have p1 := hw 1 (by omega)
  have p2 := hw 2 (by omega)
  rw [show ((0 : Nat) : Int) = 0 from rfl] at p0
  rw [show ((1 : Nat) : Int) = 1 from rfl] at p1
  rw [show ((2 : Nat) : Int) = 2 from rfl] at p2
  unfold intarsiaref25_Deed
  rw [rsplit_eq hs, Option.bind_some, p0, Option.bind_some, p1, p2]
  refine .br (fun _ => ?_) fun _ => .br (fun _ => ?_) fun _ => .br (fun _ => .now trivial) fun _ => .br (fun _ => ?_) fun _ => .br (fun _ => ?_) fun _ => .br (fun _ => .now trivial) fun _ => .now trivial
  · rw [Option.bind_some]
    exact .bind (rbytes_tot (hl 1)) fun _ _ => .now trivial
  · rw [Option.bind_some]
    exact .bind (value_tot (Nat.le_trans (hl 1) (by decide))) fun _ _ => .now trivial
  · rw [Option.bind_some]
    refine .bind (value_tot (Nat.le_trans (hl 1) (by decide))) fun _ _ => ?_
    rw [Option.bind_some]
    exact .bind (rbytes_tot (hl 2)) fun _ _ => .now trivial
  · rw [Option.bind_some]
    refine .bind (value_tot (Nat.le_trans (hl 1) (by decide))) fun _ _ => ?_
    rw [Option.bind_some]
    exact .now trivial
theorem rbytes_wrd {bs : Bytes} (h : bs.length ≤ 100000) : intarsiaref25_bytes (wrd (hexW bs)) = some bs := by
  unfold wrd
  cases hc : (hexW bs == ([] : Bytes)) with
  | true =>
    have e : bs = [] := by
      have := congrArg List.length (eq_of_beq hc)
      rw [hexW_len] at this
      exact List.eq_nil_of_length_eq_zero (by simp at this; omega)
    subst e
    rw [cond_true]
    unfold intarsiaref25_bytes
    have hb : intarsiaref25_bytes_b1 ([45] : Bytes) (([] : List UInt8), (0 : Int)) = some (.inr []) := by kernel_rfl
    rw [loopO_eq, hb]; rfl
  | false => exact rbytes_hex h
theorem rDeed_line {d : S_Deed} (h : DOk d) : intarsiaref25_Deed (lineB d) = some d := by
  have hl := line_len h
  unfold intarsiaref25_Deed
  rw [rsplit_eq (by omega), Option.bind_some, line_split]
  obtain ⟨⟨k1, k2⟩, ha, h3, hb, h5, h6⟩ := h
  obtain ⟨k, n, bs, c⟩ := d
  simp only at k1 k2 ha h3 hb h5 h6
  have hk : k = 1 ∨ k = 2 ∨ k = 3 ∨ k = 4 ∨ k = 5 ∨ k = 6 := by omega
  have hv := value_dg ha
  have hby := rbytes_wrd (bs := bs) (by omega)
  rcases hk with rfl | rfl | rfl | rfl | rfl | rfl
  · have hn : n = 0 := by omega
    have hc : c = false := h6.resolve_left (by omega)
    subst hn hc
    show ((intarsiaref25_bytes (wrd (hexW bs))).bind fun x4 => _) = _
    rw [hby]; rfl
  · have hbs : bs = [] := (h5.resolve_left (by omega)).resolve_left (by omega)
    have hc : c = false := h6.resolve_left (by omega)
    subst hbs hc
    show ((intarsiaref25_value (dg n)).bind fun x6 => _) = _
    rw [hv]; rfl
  · have hn : n = 0 := by omega
    have hbs : bs = [] := (h5.resolve_left (by omega)).resolve_left (by omega)
    have hc : c = false := h6.resolve_left (by omega)
    subst hn hbs hc
    rfl
  · have hc : c = false := h6.resolve_left (by omega)
    subst hc
    show ((intarsiaref25_value (dg n)).bind fun x8 => (some (wrd (hexW bs))).bind fun x9 => (intarsiaref25_bytes x9).bind fun x10 => _) = _
    rw [hv, Option.bind_some, Option.bind_some, hby]; rfl
  · have hbs : bs = [] := (h5.resolve_left (by omega)).resolve_left (by omega)
    subst hbs
    show ((intarsiaref25_value (dg n)).bind fun x12 => (some (bif c then clean else torn)).bind fun x13 => some (S_Deed.mk (5 : Int) x12 ([] : Bytes) (x13 == clean))) = _
    rw [hv, Option.bind_some, Option.bind_some]
    cases c <;> rfl
  · have hn : n = 0 := by omega
    have hbs : bs = [] := (h5.resolve_left (by omega)).resolve_left (by omega)
    have hc : c = false := h6.resolve_left (by omega)
    subst hn hbs hc
    rfl

/-! ### A round, both ways -/
theorem dev_split {x : Bytes} (h : tokenB x = true) : Lib.split (wDev ++ x) [32] = [[100, 101, 118, 105, 99, 101], x] := by
  have e : wDev ++ x = ([100, 101, 118, 105, 99, 101] : Bytes) ++ 32 :: x := rfl
  rw [e, split_at x rfl, split_no (noSp_bl (token_bl h))]
theorem rround_first {text behind : Bytes} {is : Bool} {s1 : Bytes} {p : S_Plan} (hs : s1.length ≤ 100000) (hc : cutC 10 s1 = (text, behind, is)) : intarsiaref25_Parse_b1 (s1, (1 : Int), p) = script_Parse_b1 (s1, (1 : Int), p) := by
  have hle := cutC_le 10 s1
  rw [hc] at hle
  simp only at hle
  rw [round_first (p := p) (by omega) hc (by omega) rfl]
  have q1 := pad_idx (Lib.split text [32]) 1 (by omega)
  have q2 := pad_idx (Lib.split text [32]) 2 (by omega)
  have q3 := pad_idx (Lib.split text [32]) 3 (by omega)
  rw [show ((1 : Nat) : Int) = 1 from rfl] at q1
  rw [show ((2 : Nat) : Int) = 2 from rfl] at q2
  rw [show ((3 : Nat) : Int) = 3 from rfl] at q3
  have hl1 : ((Lib.split text [32]).getD 1 []).length ≤ 100000 := Nat.le_trans (getD_small (s := text) 1) (by omega)
  unfold intarsiaref25_Parse_b1
  dsimp only
  rw [show (bif ((1 : Int) == (1 : Int)) then true else (!(s1 == ([] : Bytes)))) = true from rfl, cond_true, show (10 : Int) = (((10 : UInt8).toNat : Nat) : Int) from rfl, rcut_eq (s := s1) 10 (by omega), Option.bind_some, hc, rsplit_eq (s := text) (by omega), Option.bind_some, q1, q2, q3]
  generalize hl : (Lib.split text [32]).getD 1 [] = l1 at *
  have hgi : ∀ g : Bool, gidx g (padW (Lib.split text [32])) (1 : Int) = some (bif g then l1 else default) := fun g => by
    cases g with
    | true => exact (gidx_tt rfl).trans q1
    | false => rfl
  have hgc : ∀ (g : Bool) (x : Bytes), x.length ≤ 100000 → gcat g wDev x = some (wDev ++ x) := fun g x hx => by
    unfold gcat
    rw [chk_pos (fun _ => big1 (by simp [wDev]; omega))]
  have main : ∀ (l : Bytes), ((some l1).bind fun x9 => (gidx is (padW (Lib.split text [32])) (1 : Int)).bind fun x10 => (gcall is (intarsiaref25_device x10)).bind fun x11 => (gidx (bif is then x11 else false) (padW (Lib.split text [32])) (1 : Int)).bind fun x12 => (gcat (bif is then x11 else false) wDev x12).bind fun x13 =>
      bif (!(bif (bif is then x11 else false) then (text == x13) else false)) then some (.inr (zeroP, (250 : Int), (1 : Int))) else some (.inl (behind, (IntKind.i64.wrap ((1 : Int) + (1 : Int))), (S_Plan.mk x9 (p.Routes) (p.Deeds))))) =
      some (bif (is && (tokenB (bif hasPre text wDev then text.drop 7 else text) && decide ((bif hasPre text wDev then text.drop 7 else text).length ≤ 40))) && (wDev ++ (bif hasPre text wDev then text.drop 7 else text) == text) then (Sum.inl (behind, (2 : Int), S_Plan.mk (bif hasPre text wDev then text.drop 7 else text) p.Routes p.Deeds) : (Bytes × Int × S_Plan) ⊕ (S_Plan × Int × Int)) else .inr (zeroP, (250 : Int), (1 : Int))) := by
    intro _
    rw [Option.bind_some, hgi, Option.bind_some]
    cases is with
    | false =>
      rw [gcall_ff rfl, Option.bind_some, hgi, Option.bind_some, hgc _ _ (Nat.zero_le _), Option.bind_some]
      rfl
    | true =>
      rw [cond_true, gcall_tt rfl, rdevice_eq (s := l1) (by omega), Option.bind_some, hgi, Option.bind_some, cond_true, hgc _ _ (by cases (tokenB l1 && decide (l1.length ≤ 40)) with | true => exact hl1 | false => exact Nat.zero_le _), Option.bind_some, Bool.true_and]
      by_cases hB : (tokenB l1 && decide (l1.length ≤ 40)) = true ∧ text = wDev ++ l1
      · obtain ⟨b1, b2⟩ := hB
        have hp : hasPre text wDev = true := by rw [b2]; exact List.isPrefixOf_iff_prefix.2 (List.prefix_append ..)
        have hd : text.drop 7 = l1 := by rw [b2]; rfl
        rw [hp, cond_true, hd, b1, cond_true, cond_true, b2]
        simp
        rfl
      · have h1 : (bif (tokenB l1 && decide (l1.length ≤ 40)) then (text == wDev ++ (bif (tokenB l1 && decide (l1.length ≤ 40)) then l1 else default)) else false) = false := by
          cases hk : (tokenB l1 && decide (l1.length ≤ 40)) with
          | false => rfl
          | true =>
            rw [cond_true, cond_true, beq_eq_false_iff_ne]
            exact fun e => hB ⟨hk, e⟩
        rw [h1]
        have h2 : ((tokenB (bif hasPre text wDev then text.drop 7 else text) && decide ((bif hasPre text wDev then text.drop 7 else text).length ≤ 40)) && (wDev ++ (bif hasPre text wDev then text.drop 7 else text) == text)) = false := by
          cases hk : ((tokenB (bif hasPre text wDev then text.drop 7 else text) && decide ((bif hasPre text wDev then text.drop 7 else text).length ≤ 40)) && (wDev ++ (bif hasPre text wDev then text.drop 7 else text) == text)) with
          | false => rfl
          | true =>
            exfalso
            rw [Bool.and_eq_true, beq_iff_eq] at hk
            obtain ⟨k1, k2⟩ := hk
            generalize (bif hasPre text wDev then text.drop 7 else text) = x7 at k1 k2
            have k3 := k1
            rw [Bool.and_eq_true] at k3
            have : l1 = x7 := by rw [← hl, ← k2, dev_split k3.1]; rfl
            exact hB ⟨by rw [this]; exact k1, by rw [this]; exact k2.symm⟩
        rw [h2]; rfl
  rw [Option.bind_some, Option.bind_some, Option.bind_some, show ((1 : Int) == (1 : Int)) = true from rfl, cond_true, cond_true]
  cases (l1 == ([45] : Bytes)) with
  | true => exact main l1
  | false => exact main l1
theorem rround_more {text behind : Bytes} {is : Bool} {s1 : Bytes} {p : S_Plan} {no : Int} (hs : s1.length ≤ 100000) (hne : s1 ≠ []) (hno : 2 ≤ no ∧ no ≤ 1000000000000) (hc : cutC 10 s1 = (text, behind, is)) (hp : PSm p) : intarsiaref25_Parse_b1 (s1, no, p) = script_Parse_b1 (s1, no, p) := by
  have hle := cutC_le 10 s1
  rw [hc] at hle
  simp only at hle
  have hrs := routeW_small (s := text) (by omega)
  have hr := parse_eq (s := text) (by omega) hrs
  obtain ⟨d, hd, _⟩ := deed_tot (s := text) (by omega)
  obtain ⟨d', hd', _⟩ := rDeed_tot (s := text) (by omega)
  rw [round_more (p := p) (by omega) hne hno hc hr hd hp hrs]
  have q1 := pad_idx (Lib.split text [32]) 1 (by omega)
  have q2 := pad_idx (Lib.split text [32]) 2 (by omega)
  have q3 := pad_idx (Lib.split text [32]) 3 (by omega)
  rw [show ((1 : Nat) : Int) = 1 from rfl] at q1
  rw [show ((2 : Nat) : Int) = 2 from rfl] at q2
  rw [show ((3 : Nat) : Int) = 3 from rfl] at q3
  have h1 := hp.nr
  have h2 := hp.nd
  have e1 : (no == (1 : Int)) = false := by rw [beq_eq_false_iff_ne]; omega
  have e2 : (s1 == ([] : Bytes)) = false := by simpa using hne
  have hw : IntKind.i64.wrap (no + (1 : Int)) = no + 1 := wrap_i64 (by omega) (by omega)
  have e3 : (((p.Deeds).length : Int) == (0 : Int)) = (p.Deeds.length == 0) := by rw [Bool.eq_iff_iff]; simp
  have hsame : (rightD d' && (lineB d' == text)) = (rightD d && (lineB d == text)) ∧ ((rightD d && (lineB d == text)) = true → d' = d) := by
    have k1 : (rightD d && (lineB d == text)) = true → d' = d := fun h => by
      rw [Bool.and_eq_true, beq_iff_eq] at h
      have := rDeed_line (rightD_ok h.1)
      rw [h.2, hd'] at this
      exact Option.some.inj this
    have k2 : (rightD d' && (lineB d' == text)) = true → d = d' := fun h => by
      rw [Bool.and_eq_true, beq_iff_eq] at h
      have := deed_line (rightD_ok h.1)
      rw [h.2, hd] at this
      exact Option.some.inj this
    refine ⟨?_, k1⟩
    rw [Bool.eq_iff_iff]
    exact ⟨fun h => by rw [k2 h]; exact h, fun h => by rw [k1 h]; exact h⟩
  have main : ∀ r : S_Route, RSm r → ((intarsiaref25_Way r).bind fun x26 =>
          bif (bif (x26 == text) then (((p.Deeds).length : Int) == (0 : Int)) else false) then
            (app 48 (p.Routes) ([r] : List S_Route)).bind fun x27 =>
            (gcall is (intarsiaref21_Right x27)).bind fun x28 =>
            bif (!(bif is then x28 else false)) then
              some (.inr (zeroP, (250 : Int), no))
            else
              some (.inl (behind, (IntKind.i64.wrap (no + (1 : Int))), (S_Plan.mk (p.Device) x27 (p.Deeds))))
          else
            (intarsiaref25_Deed text).bind fun x29 =>
            (app 40 (p.Deeds) ([x29] : List S_Deed)).bind fun x30 =>
            (gcall (bif is then (decide ((x30.length : Int) ≤ (200 : Int))) else false) (intarsiaref25_IsDeed x29)).bind fun x31 =>
            (gcall (bif (bif is then (decide ((x30.length : Int) ≤ (200 : Int))) else false) then x31 else false) (intarsiaref25_Line x29)).bind fun x32 =>
            bif (!(bif (bif (bif is then (decide ((x30.length : Int) ≤ (200 : Int))) else false) then x31 else false) then (x32 == text) else false)) then
              some (.inr (zeroP, (250 : Int), no))
            else
              some (.inl (behind, (IntKind.i64.wrap (no + (1 : Int))), (S_Plan.mk (p.Device) (p.Routes) x30)))) =
      some (stepB text behind is r (wayB r == text) d no p (routesB (p.Routes ++ [r])) (decide (p.Deeds.length + 1 ≤ 200) && (rightD d && (lineB d == text)))) := by
    intro r hrs
    rw [rWay_eq hrs, Option.bind_some, cand, e3]
    unfold stepB
    cases hb : ((wayB r == text) && (p.Deeds.length == 0)) with
    | true =>
      rw [cond_true, app_small (by simp; omega) (by omega), Option.bind_some]
      have hrt : intarsiaref21_Right (p.Routes ++ [r]) = some (routesB (p.Routes ++ [r])) := R21_eq (by simp; omega) (fun x hx => by
        rcases List.mem_append.1 hx with hx | hx
        · exact hp.routes x hx
        · simp at hx; subst hx; exact hrs)
      rw [gcall_val (fun _ => hrt), Option.bind_some, hw]
      cases is <;> cases routesB (p.Routes ++ [r]) <;> rfl
    | false =>
      rw [cond_false, hd', Option.bind_some, app_small (by simp; omega) (by omega), Option.bind_some]
      have e4 : decide (((p.Deeds ++ [d']).length : Int) ≤ (200 : Int)) = decide (p.Deeds.length + 1 ≤ 200) := by rw [Bool.eq_iff_iff]; simp; omega
      rw [e4, gcall_val (fun _ => isDeed_eq d'), Option.bind_some, hw, ← hsame.1]
      cases is with
      | false => rfl
      | true =>
        cases decide (p.Deeds.length + 1 ≤ 200) with
        | false => rfl
        | true =>
          cases hrd : rightD d' with
          | false => rfl
          | true =>
            simp only [cond_true]
            rw [gcall_tt rfl, rLine_eq (rightD_ok hrd), Option.bind_some]
            cases hq : (lineB d' == text) with
            | false => rfl
            | true =>
              have : d' = d := hsame.2 (by rw [← hsame.1, hrd, hq]; rfl)
              rw [this]; rfl
  unfold intarsiaref25_Parse_b1
  dsimp only
  rw [e1, e2, show (bif false then true else (!false)) = true from rfl, cond_true, show (10 : Int) = (((10 : UInt8).toNat : Nat) : Int) from rfl, rcut_eq (s := s1) 10 (by omega), Option.bind_some, hc, rsplit_eq (s := text) (by omega), Option.bind_some, q1, Option.bind_some, q2, Option.bind_some, q3, Option.bind_some]
  have hm := main _ hrs
  unfold routeW at hm
  unfold routeW
  cases hk : ((Lib.split text [32]).getD 1 [] == ([45] : Bytes)) with
  | true =>
    rw [hk] at hm
    exact hm
  | false =>
    rw [hk] at hm
    exact hm

/-! ### The whole text -/
theorem loop_same {σ ρ : Type} {b1 b2 : σ → Option (σ ⊕ ρ)} (Inv : σ → Prop) (h : ∀ x, Inv x → b2 x = b1 x ∧ ∀ y, b1 x = some (.inl y) → Inv y) {x : σ} {r : ρ} (hx : Inv x) (hr : loopO b1 x = some r) : loopO b2 x = some r := by
  rw [loopO_some] at hr ⊢
  obtain ⟨n, hn⟩ := hr
  refine ⟨n, ?_⟩
  induction n generalizing x with
  | zero => cases hn
  | succ n ih =>
    obtain ⟨h1, h2⟩ := h x hx
    unfold loopN at hn ⊢
    rw [h1]
    cases hb : b1 x with
    | none => rw [hb] at hn; cases hn
    | some z =>
      rw [hb] at hn
      cases z with
      | inl y => exact ih (h2 y hb) hn
      | inr r' => exact hn
theorem rParse_eq {S : Bytes} (hS : S.length ≤ 10000) {r : S_Plan × Int × Int} (hr : script_Parse S = some r) : intarsiaref25_Parse S = some r := by
  unfold script_Parse at hr
  unfold intarsiaref25_Parse
  refine loop_same (b1 := script_Parse_b1) (PInv S) (fun x hx => ⟨?_, fun y hy => ?_⟩) (.inl ⟨rfl, rfl, rfl⟩) hr
  · obtain ⟨s1, no, p⟩ := x
    rcases hx with ⟨h1, h2, h3⟩ | ⟨h1, h2, h3, h4⟩
    · simp only at h1 h2 h3
      subst h1 h2 h3
      exact rround_first (by omega) rfl
    · simp only at h1 h2 h3 h4
      have hle0 : s1.length ≤ S.length := by rw [h4]; simp
      by_cases hne : s1 = []
      · subst hne
        have e1 : (no == (1 : Int)) = false := by rw [beq_eq_false_iff_ne]; omega
        unfold intarsiaref25_Parse_b1 script_Parse_b1
        dsimp only
        rw [e1]; rfl
      · exact rround_more (by omega) hne (by omega) rfl h3.small
  · rcases Parse_step hS x hx with ⟨z, h1, h2, _⟩ | ⟨z, h1, _⟩
    · rw [h1] at hy
      injection hy with hy
      injection hy with hy
      rw [← hy]; exact h2
    · rw [h1] at hy; cases hy
theorem ScriptReads_true (s : Bytes) : intarsialaw25_ScriptReads s = some true := by
  unfold intarsialaw25_ScriptReads
  have hS : (s.take 9000).length ≤ 10000 := by simp; omega
  obtain ⟨r, hr, hres⟩ := Parse_tot hS
  have hlike : intarsiaref25_Like r.1 r.1 = some true := by
    rcases hres with ⟨_, hg, _⟩ | ⟨_, hz⟩
    · exact like_refl (by have := hg.small.nr; omega) (by have := hg.small.nd; omega)
    · rw [hz]; exact like_refl (by decide) (by decide)
  rw [slc_cut (K := 9000) s 9000 rfl, Option.bind_some, hr, Option.bind_some, rParse_eq hS hr, Option.bind_some, alive_eq, Option.bind_some, gcall_val (fun _ => hlike)]
  simp
end Go.Proofs.YtkfoahoplndelaaGreatDoor
