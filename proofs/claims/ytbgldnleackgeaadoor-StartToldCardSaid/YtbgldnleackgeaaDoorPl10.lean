/-
  Plain laws, 10: StartTold and StartReads hold.
-/
import Derived.Test.YtbgldnleackgeaaDoorPl9
namespace Go.Proofs.YtbgldnleackgeaaDoor
open Go Go.Pm
set_option linter.unusedVariables false

/-! ### What is said of a code -/
def reasonTbl : List (Int × Bytes) := [(200, [79, 75]), (304, [78, 111, 116, 32, 77, 111, 100, 105, 102, 105, 101, 100]), (400, [66, 97, 100, 32, 82, 101, 113, 117, 101, 115, 116]), (404, [78, 111, 116, 32, 70, 111, 117, 110, 100]),
  (413, [84, 111, 111, 32, 76, 97, 114, 103, 101]), (431, [70, 105, 101, 108, 100, 115, 32, 84, 111, 111, 32, 76, 97, 114, 103, 101]), (500, [73, 110, 116, 101, 114, 110, 97, 108, 32, 69, 114, 114, 111, 114]), (502, [66, 97, 100, 32, 71, 97, 116, 101, 119, 97, 121]),
  (504, [71, 97, 116, 101, 119, 97, 121, 32, 84, 105, 109, 101, 111, 117, 116])]
def reasonL (l : List (Int × Bytes)) (n : Int) : Bytes := bif mhas l n then mget ([] : Bytes) l n else [85, 110, 107, 110, 111, 119, 110]
def reasonB (n : Int) : Bytes := reasonL reasonTbl n
theorem Reason_eq (n : Int) : start_Reason n = some (reasonB n) := by
  show (bif (!(mhas reasonTbl n)) then some ([85, 110, 107, 110, 111, 119, 110] : Bytes) else some (mget ([] : Bytes) reasonTbl n)) = _
  unfold reasonB reasonL
  cases mhas reasonTbl n <;> rfl
theorem refReason_loop (n : Int) : ∀ (rest : List (Int × Bytes)) (k : Nat), reasonTbl.drop k = rest → loopO (intarsiaref06_Reason_b1 n) (k : Int) = some (reasonL rest n)
  | [], k, h => by
    have hk : 9 ≤ k := by
      have := congrArg List.length h
      rw [List.length_drop] at this
      have e : reasonTbl.length = 9 := rfl
      simp at this; omega
    rw [loopO_eq]
    unfold intarsiaref06_Reason_b1
    rw [show decide ((k : Int) < ((([(200 : Int), (304 : Int), (400 : Int), (404 : Int), (413 : Int), (431 : Int), (500 : Int), (502 : Int), (504 : Int)] : List Int).length : Nat) : Int)) = false by simp; omega]
    rfl
  | p :: rest, k, h => by
    have hp : reasonTbl[k]? = some p := by
      have := congrArg (fun l => l[0]?) h
      simpa using this
    have hk : k < 9 := (List.getElem?_eq_some_iff.1 hp).1
    have h1 : ([(200 : Int), (304 : Int), (400 : Int), (404 : Int), (413 : Int), (431 : Int), (500 : Int), (502 : Int), (504 : Int)] : List Int)[k]? = some p.1 := by
      have : (reasonTbl.map (·.1))[k]? = some p.1 := by rw [List.getElem?_map, hp]; rfl
      exact this
    have h2 : (reasonTbl.map (·.2))[k]? = some p.2 := by rw [List.getElem?_map, hp]; rfl
    have hrest : reasonTbl.drop (k + 1) = rest := by
      have := congrArg List.tail h
      simpa using this
    have hc : (p.1 == n) = (n == p.1) := by rw [Bool.eq_iff_iff, beq_iff_eq, beq_iff_eq]; exact eq_comm
    have hb : intarsiaref06_Reason_b1 n (k : Int) = bif (n == p.1) then some (.inr p.2) else some (.inl ((k + 1 : Nat) : Int)) := by
      unfold intarsiaref06_Reason_b1
      rw [show decide ((k : Int) < ((([(200 : Int), (304 : Int), (400 : Int), (404 : Int), (413 : Int), (431 : Int), (500 : Int), (502 : Int), (504 : Int)] : List Int).length : Nat) : Int)) = true by simp; omega]
      rw [cond_true, idx_at h1, Option.bind_some, wrap_i64 (by omega) (by omega), hc]
      cases (n == p.1) with
      | true =>
        show (idx (reasonTbl.map (·.2)) (k : Int)).bind _ = _
        rw [idx_at h2]; rfl
      | false => rfl
    rw [loopO_eq, hb]
    unfold reasonL mhas mget
    cases hb : (n == p.1) with
    | true => rfl
    | false => exact refReason_loop n rest (k + 1) hrest
theorem refReason_eq (n : Int) : intarsiaref06_Reason n = some (reasonB n) := refReason_loop n reasonTbl 0 rfl
def reasonOk (t : Bytes) : Bool := decide (t.length ≤ 100) && ((trim t == t) && !(t.any ctlB))
theorem reason_ok (n : Int) : reasonOk (reasonB n) = true := by
  have key : ∀ (l : List (Int × Bytes)), (l.all fun p => reasonOk p.2) = true → reasonOk (reasonL l n) = true := by
    intro l
    induction l with
    | nil => intro _; kernel_rfl
    | cons p l ih =>
      intro h
      rw [List.all_cons, Bool.and_eq_true] at h
      unfold reasonL mhas mget
      cases hb : (n == p.1) with
      | true => exact h.1
      | false => exact ih h.2
  exact key _ (by kernel_rfl)

/-! ### Lines, cut at blanks -/
theorem sp_cases : ∀ (s : Bytes), noSp s = true ∨ ∃ a t, s = a ++ 32 :: t ∧ noSp a = true
  | [] => .inl rfl
  | x :: s => by
    by_cases hx : x = 32
    · subst hx; exact .inr ⟨[], s, rfl, rfl⟩
    · have hc : ∀ (a : Bytes), noSp a = true → noSp (x :: a) = true := fun a ha => by
        unfold noSp at ha ⊢
        rw [List.contains_cons]
        have : ((32 : UInt8) == x) = false := by simpa using fun e => hx e.symm
        rw [this]; exact ha
      rcases sp_cases s with h | ⟨a, t, rfl, h⟩
      · exact .inl (hc _ h)
      · exact .inr ⟨x :: a, t, rfl, hc _ h⟩
theorem split_three {l a b v : Bytes} (h : Lib.split l [32] = [a, b, v]) : l = a ++ 32 :: (b ++ 32 :: v) ∧ noSp a = true ∧ noSp b = true ∧ noSp v = true := by
  rcases sp_cases l with h1 | ⟨a1, t1, rfl, h1⟩
  · rw [split_no h1] at h; simp at h
  rw [split_at _ h1] at h
  injection h with e1 h
  subst e1
  rcases sp_cases t1 with h2 | ⟨a2, t2, rfl, h2⟩
  · rw [split_no h2] at h; simp at h
  rw [split_at _ h2] at h
  injection h with e2 h
  subst e2
  rcases sp_cases t2 with h3 | ⟨a3, t3, rfl, h3⟩
  · rw [split_no h3] at h
    injection h with e3 _
    subst e3
    exact ⟨rfl, h1, h2, h3⟩
  · rw [split_at _ h3] at h
    injection h with e3 h
    obtain ⟨x, l, hx⟩ := split_one t3
    rw [hx] at h; simp at h
theorem minorB_cases (v : Bytes) : (minorB v = 0 ∧ v = ver 0) ∨ (minorB v = 1 ∧ v = ver 1) ∨ (minorB v = 2 ∧ v ≠ ver 0 ∧ v ≠ ver 1) := by
  unfold minorB
  cases h0 : (v == ver 0) with
  | true => exact .inl ⟨rfl, eq_of_beq h0⟩
  | false =>
    cases h1 : (v == ver 1) with
    | true => exact .inr (.inl ⟨rfl, eq_of_beq h1⟩)
    | false => exact .inr (.inr ⟨rfl, by simpa using h0, by simpa using h1⟩)
theorem parse_told {l : Bytes} {s : S_Start} (h : parseB l = (s, 0)) : s.Code = 0 ∧ l.length = s.Method.length + s.Target.length + 10 ∧ statusB l = (zeroS, 30) := by
  unfold parseB at h
  generalize hw : Lib.split l [32] = w at h
  have bad : ∀ {s : S_Start}, (zeroS, (30 : Int)) = (s, 0) → False := fun h => by injection h with _ h; omega
  match w, h with
  | [], h => exact (bad h).elim
  | [_], h => exact (bad h).elim
  | [_, _], h => exact (bad h).elim
  | [a, b, v], h =>
    obtain ⟨rfl, ha, hb, hv⟩ := split_three hw
    rcases okS_cases (S_Start.mk a b 0 [] (minorB v)) with ⟨h1, h2⟩ | h2
    · have h3 : okS (S_Start.mk a b 0 [] (minorB v)) = (s, 0) := h
      rw [h2] at h3
      injection h3 with h3
      subst h3
      have hl : v.length = 8 := by
        rcases minorB_cases v with ⟨_, e⟩ | ⟨_, e⟩ | ⟨e, _⟩
        · rw [e]; exact ver_len (m := 0) (.inl rfl)
        · rw [e]; exact ver_len (m := 1) (.inr rfl)
        · have := startB_minor h1
          simp only at this; omega
      refine ⟨rfl, by simp [hl]; omega, ?_⟩
      unfold statusB
      rw [splitN_two ha hb]
      refine statusOf_bad (tok_noMinor ?_)
      unfold startB at h1
      rw [Bool.and_eq_true] at h1
      have h4 := h1.2
      rw [show ((S_Start.mk a b 0 [] (minorB v)).Code == 0) = true from rfl, cond_true, Bool.and_eq_true, Bool.and_eq_true] at h4
      exact h4.2.1
    · have h3 : okS (S_Start.mk a b 0 [] (minorB v)) = (s, 0) := h
      rw [h2] at h3
      exact (bad h3).elim
  | _ :: _ :: _ :: _ :: _, h => exact (bad h).elim
/-- The words of an answer's line. -/
theorem splitN_words {l v c r : Bytes} (h : Lib.splitN l [32] 3 = [v, c] ∧ r = [] ∨ Lib.splitN l [32] 3 = [v, c, r]) : ∃ t, l = v ++ 32 :: t := by
  rcases sp_cases l with h1 | ⟨a1, t1, rfl, h1⟩
  · have : Lib.splitN l [32] 3 = [l] := by
      unfold Lib.splitN
      exact splitK_no h1
    rw [this] at h; simp at h
  refine ⟨t1, ?_⟩
  have : ∃ w, Lib.splitN (a1 ++ 32 :: t1) [32] 3 = a1 :: w := by
    unfold Lib.splitN
    have : ∃ k, min 3 ((a1 ++ 32 :: t1).length + 1) - 1 = k + 1 := ⟨min 3 ((a1 ++ 32 :: t1).length + 1) - 2, by simp; omega⟩
    obtain ⟨k, hk⟩ := this
    rw [hk, splitK_at h1]
    exact ⟨_, rfl⟩
  obtain ⟨w, hw⟩ := this
  rw [hw] at h
  rcases h with ⟨h, _⟩ | h
  · injection h with h; rw [h]
  · injection h with h; rw [h]
theorem statusOf_ver {v c r : Bytes} {s : S_Start} (h : statusOf v c r = (s, 0)) : v = ver 0 ∨ v = ver 1 := by
  rcases minorB_cases v with ⟨_, e⟩ | ⟨_, e⟩ | ⟨e, _⟩
  · exact .inl e
  · exact .inr e
  · rw [statusOf_bad e] at h
    injection h with _ h; omega
theorem ver_take {v t : Bytes} (h : v = ver 0 ∨ v = ver 1) : (v ++ 32 :: t).take 7 = [72, 84, 84, 80, 47, 49, 46] := by
  have e0 : ver 0 = [72, 84, 84, 80, 47, 49, 46, 48] := by unfold ver; rw [digits_lo (by omega)]; rfl
  have e1 : ver 1 = [72, 84, 84, 80, 47, 49, 46, 49] := by unfold ver; rw [digits_lo (by omega)]; rfl
  rcases h with rfl | rfl
  · rw [e0]; rfl
  · rw [e1]; rfl
theorem status_told {l : Bytes} {s : S_Start} (h : statusB l = (s, 0)) : 7 ≤ l.length ∧ l.take 7 = [72, 84, 84, 80, 47, 49, 46] ∧ 100 ≤ s.Code ∧ s.Code ≤ 599 ∧ s.Method = [] ∧ s.Target = [] := by
  rcases status_cases l with ⟨s', h1, h2, h3, h4, h5, h6⟩ | h'
  · rw [h1] at h
    injection h with h
    subst h
    have hc := (startB_code h2).resolve_left h3
    have hl : ∃ v t, l = v ++ 32 :: t ∧ (v = ver 0 ∨ v = ver 1) := by
      unfold statusB at h1
      generalize hw : Lib.splitN l [32] 3 = w at h1
      have bad : (zeroS, (30 : Int)) = (s', 0) → False := fun h => by injection h with _ h; omega
      match w, h1 with
      | [], h => exact (bad h).elim
      | [_], h => exact (bad h).elim
      | [v, c], h =>
        obtain ⟨t, ht⟩ := splitN_words (r := []) (.inl ⟨hw, rfl⟩)
        exact ⟨v, t, ht, statusOf_ver h⟩
      | [v, c, r], h =>
        obtain ⟨t, ht⟩ := splitN_words (.inr hw)
        exact ⟨v, t, ht, statusOf_ver h⟩
      | _ :: _ :: _ :: _ :: _, h => exact (bad h).elim
    obtain ⟨v, t, rfl, hv⟩ := hl
    refine ⟨?_, ver_take hv, hc.1, hc.2, h4, h5⟩
    have : v.length = 8 := by
      rcases hv with e | e
      · rw [e]; exact ver_len (m := 0) (.inl rfl)
      · rw [e]; exact ver_len (m := 1) (.inr rfl)
    simp; omega
  · rw [h'] at h
    injection h with _ h; omega

theorem StartTold_true (line : Bytes) (code : Int) : intarsialaw06_StartTold line code = some true := by
  unfold intarsialaw06_StartTold
  have hline : (line.take 600).length ≤ 600 := by simp; omega
  rw [slc_cut line 600 (K := 600) rfl, Option.bind_some]
  generalize line.take 600 = y at hline
  rw [Parse_eq (by omega), Option.bind_some, Status_eq (by omega), Option.bind_some]
  have hz0 : ((30 : Int) == 0) = false := rfl
  have h00 : ((0 : Int) == 0) = true := rfl
  -- the end
  have hend : ∀ n : Int, 100 ≤ n → n ≤ 599 → ((start_Reason n).bind fun x7 => (start_Print (S_Start.mk ([] : Bytes) ([] : Bytes) n x7 (1 : Int))).bind fun x8 => (start_Status (x8.1)).bind fun x9 => (intarsialaw06_alive).bind fun x10 =>
      some (bif (bif (bif x10 then ((x8.2) == (0 : Int)) else false) then ((x9.2) == (0 : Int)) else false) then ((((x9.1).Method) == ([] : Bytes)) && ((((x9.1).Target) == ([] : Bytes)) && ((((x9.1).Code) == n) && ((((x9.1).Reason) == x7) && ((((x9.1).Minor) == (1 : Int)) && true))))) else false)) = some true := by
    intro n h1 h2
    have hr := reason_ok n
    unfold reasonOk at hr
    have hok : startB (S_Start.mk [] [] n (reasonB n) 1) = true := by
      unfold startB
      have hb : (n == 0) = false := by simp; omega
      simp only [hb, cond_false]
      rw [hr]
      simp; omega
    have hsm : SSm (S_Start.mk [] [] n (reasonB n) 1) := ⟨Nat.zero_le _, Nat.zero_le _, by rw [Bool.and_eq_true] at hr; have := of_decide_eq_true hr.1; show (reasonB n).length ≤ _; omega⟩
    have hl := printB_len hsm hok
    rw [Reason_eq, Option.bind_some, Print_eq hsm, hok, cond_true, Option.bind_some, Status_eq (by
      rw [Bool.and_eq_true] at hr
      have := of_decide_eq_true hr.1
      show (printB _).length ≤ _
      simp only [List.length_nil] at hl; omega), Option.bind_some, salive_eq, Option.bind_some]
    rw [show statusB ((printB (S_Start.mk [] [] n (reasonB n) 1), (0 : Int)).1) = _ from (print1 hok (by show n ≠ 0; omega)).2]
    simp
  have hcode : ∃ n, IntKind.i64.wrap ((100 : Int) + ((IntKind.i64.wrap ((code.tmod (500 : Int)) + (500 : Int))).tmod (500 : Int))) = n ∧ 100 ≤ n ∧ n ≤ 599 ∧ IntKind.i64.wrap (code.tmod (500 : Int)) = code.tmod (500 : Int) ∧
      IntKind.i64.wrap ((IntKind.i64.wrap ((code.tmod (500 : Int)) + (500 : Int))).tmod (500 : Int)) = (IntKind.i64.wrap ((code.tmod (500 : Int)) + (500 : Int))).tmod (500 : Int) := by
    have h1 : -500 < code.tmod 500 ∧ code.tmod 500 < 500 := by
      have h2 := Int.tmod_lt_of_pos code (show (0 : Int) < 500 by omega)
      have h3 := Int.lt_tmod_of_pos code (show (0 : Int) < 500 by omega)
      omega
    rw [wrap_i64 (n := code.tmod 500 + 500) (by omega) (by omega)]
    have h4 : 0 ≤ (code.tmod 500 + 500).tmod 500 ∧ (code.tmod 500 + 500).tmod 500 < 500 := ⟨Int.tmod_nonneg _ (by omega), Int.tmod_lt_of_pos _ (by omega)⟩
    exact ⟨_, rfl, by rw [wrap_i64 (by omega) (by omega)]; omega, by rw [wrap_i64 (by omega) (by omega)]; omega, wrap_i64 (by omega) (by omega), wrap_i64 (by omega) (by omega)⟩
  obtain ⟨n, hn, hn1, hn2, hw1, hw2⟩ := hcode
  rw [chk_pos ⟨rfl, hw1⟩, chk_pos ⟨rfl, hw2⟩, hn, hend n hn1 hn2]
  rcases parse_cases y with ⟨s, h1, h2, h3, h4, h5, h6⟩ | h1
  · obtain ⟨k1, k2, k3⟩ := parse_told h1
    rw [h1, k3]
    simp only [hz0, h00, k1, cond_true, cond_false]
    rw [wrap_i64 (n := (s.Method.length : Int) + (s.Target.length : Int)) (by omega) (by omega), wrap_i64 (by omega) (by omega), k2]
    have e : (((s.Method.length : Int) + (s.Target.length : Int) + 10) != ((s.Method.length + s.Target.length + 10 : Nat) : Int)) = false := by simp
    rw [e]
    rfl
  · rw [h1]
    simp only [hz0, cond_false]
    rcases status_cases y with ⟨s, g1, g2, g3, g4, g5, g6⟩ | g1
    · obtain ⟨k1, k2, k3, k4, k5, k6⟩ := status_told g1
      rw [g1]
      have hs : gslc ((0 : Int) == (0 : Int)) y 0 (7 : Int) = some [72, 84, 84, 80, 47, 49, 46] := by
        unfold gslc
        rw [chk_pos (fun _ => ⟨by omega, by omega, by omega⟩)]
        exact congrArg some k2
      show ((gslc ((0 : Int) == (0 : Int)) y 0 (7 : Int)).bind _) = _
      rw [hs, Option.bind_some]
      have e1 : decide (s.Code < 100) = false := by simp; omega
      have e2 : decide (s.Code > 599) = false := by simp; omega
      simp only [e1, e2, k5, k6, h00, cond_true, cond_false]
      rfl
    · rw [g1]
      have hs : gslc ((30 : Int) == (0 : Int)) y 0 (7 : Int) = some (y.take 7) := by
        unfold gslc
        rw [chk_pos (fun h => by cases h)]; rfl
      show ((gslc ((30 : Int) == (0 : Int)) y 0 (7 : Int)).bind _) = _
      rw [hs]; rfl
end Go.Proofs.YtbgldnleackgeaaDoor
