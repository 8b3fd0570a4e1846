/-
  Plain laws, 9: texts cut at blanks; first lines that are written are read again. StartBack holds.
-/
import Derived.Test.YtbgldnleackgeaaDoorPl8
import Derived.Lib.SplitLaws
namespace Go.Proofs.YtbgldnleackgeaaDoor
open Go Go.Pm
set_option linter.unusedVariables false

/-! ### Cut at blanks -/
def noSp (s : Bytes) : Bool := !(s.contains 32)
theorem noSp_cons {x : UInt8} {s : Bytes} (h : noSp (x :: s) = true) : (x = 32 → False) ∧ noSp s = true := by
  unfold noSp at h ⊢
  rw [List.contains_cons] at h
  simp at h ⊢
  exact ⟨fun e => h.1 e.symm, h.2⟩
theorem index_no : ∀ {s : Bytes}, noSp s = true → Lib.index s [32] = -1
  | [], _ => by simp [Lib.index]
  | x :: s, h => by
    obtain ⟨h1, h2⟩ := noSp_cons h
    have hp : ([32] : Bytes).isPrefixOf (x :: s) = false := by simp [List.isPrefixOf]; exact fun e => h1 e.symm
    rw [Lib.index, hp, index_no h2]; rfl
theorem index_at : ∀ {a : Bytes} (t : Bytes), noSp a = true → Lib.index (a ++ 32 :: t) [32] = (a.length : Int)
  | [], t, _ => by rw [List.nil_append, Lib.index]; simp [List.isPrefixOf]
  | x :: a, t, h => by
    obtain ⟨h1, h2⟩ := noSp_cons h
    have hp : ([32] : Bytes).isPrefixOf (x :: (a ++ 32 :: t)) = false := by simp [List.isPrefixOf]; exact fun e => h1 e.symm
    rw [List.cons_append, Lib.index, hp, index_at t h2]
    have : ((a.length : Int) == -1) = false := by simp
    simp [this]
theorem splitK_no {k : Nat} {s : Bytes} (h : noSp s = true) : Lib.splitK [32] 0 k s = [s] := by
  cases k with
  | zero => rfl
  | succ k => unfold Lib.splitK; rw [index_no h]; rfl
theorem splitK_at {k : Nat} {a t : Bytes} (h : noSp a = true) : Lib.splitK [32] 0 (k + 1) (a ++ 32 :: t) = a :: Lib.splitK [32] 0 k t := by
  conv => lhs; unfold Lib.splitK
  rw [index_at t h]
  have : ((a.length : Int) == -1) = false := by simp
  rw [this]
  simp
theorem count_no {s : Bytes} (h : noSp s = true) : Lib.count s [32] = 0 := Lib.count_miss (index_no h)
theorem count_at {a : Bytes} (t : Bytes) (h : noSp a = true) : Lib.count (a ++ 32 :: t) [32] = Lib.count t [32] + 1 := by
  rw [Lib.count_hit (by simp) (index_at t h)]
  simp [Nat.add_comm]
theorem split_no {s : Bytes} (h : noSp s = true) : Lib.split s [32] = [s] := splitK_no h
theorem split_at {a : Bytes} (t : Bytes) (h : noSp a = true) : Lib.split (a ++ 32 :: t) [32] = a :: Lib.split t [32] := by
  unfold Lib.split
  rw [count_at t h, splitK_at h]
theorem split_one (s : Bytes) : ∃ x l, Lib.split s [32] = x :: l := by
  unfold Lib.split
  cases Lib.count s [32] with
  | zero => exact ⟨_, _, rfl⟩
  | succ k =>
    unfold Lib.splitK
    split
    · exact ⟨_, _, rfl⟩
    · exact ⟨_, _, rfl⟩

/-! ### First lines -/
def zeroS : S_Start := S_Start.mk [] [] 0 [] 0
def ver (n : Nat) : Bytes := [72, 84, 84, 80, 47, 49, 46] ++ Lib.decDigits n
def minorB (v : Bytes) : Int := bif v == ver 0 then 0 else bif v == ver 1 then 1 else 2
theorem minor_eq (v : Bytes) : start_minor v = some (minorB v) := by
  unfold start_minor minorB
  rw [show ver 0 = [72, 84, 84, 80, 47, 49, 46, 48] by unfold ver; rw [digits_lo (by omega)]; rfl, show ver 1 = [72, 84, 84, 80, 47, 49, 46, 49] by unfold ver; rw [digits_lo (by omega)]; rfl]
  cases (v == ([72, 84, 84, 80, 47, 49, 46, 48] : Bytes)) <;> cases (v == ([72, 84, 84, 80, 47, 49, 46, 49] : Bytes)) <;> rfl
def okS (s : S_Start) : S_Start × Int := bif startB s then (s, 0) else (zeroS, 30)
def parseW : List Bytes → S_Start × Int
  | [a, b, v] => okS (S_Start.mk a b 0 [] (minorB v))
  | _ => (zeroS, 30)
def parseB (l : Bytes) : S_Start × Int := parseW (Lib.split l [32])
def statusOf (v c r : Bytes) : S_Start × Int :=
  bif c.length == 3 && ((dec c).2 == 0 && !((dec c).1 == 0)) then okS (S_Start.mk [] [] (dec c).1 r (minorB v)) else (zeroS, 30)
def statusW : List Bytes → S_Start × Int
  | [v, c] => statusOf v c []
  | [v, c, r] => statusOf v c r
  | _ => (zeroS, 30)
def statusB (l : Bytes) : S_Start × Int := statusW (Lib.splitN l [32] 3)

theorem split_small {s : Bytes} : ∀ x, x ∈ Lib.split s [32] → x.length ≤ s.length := by
  have key : ∀ (k : Nat) (s x : Bytes), x ∈ Lib.splitK [32] 0 k s → x.length ≤ s.length := by
    intro k
    induction k with
    | zero => intro s x h; simp [Lib.splitK] at h; subst h; exact Nat.le_refl _
    | succ k ih =>
      intro s x h
      unfold Lib.splitK at h
      split at h
      · simp at h; subst h; exact Nat.le_refl _
      · rcases List.mem_cons.1 h with rfl | h
        · rw [List.length_take]; omega
        · have := ih _ x h
          rw [List.length_drop] at this
          omega
  exact key _ s
theorem splitN_small {s : Bytes} {n : Nat} : ∀ x, x ∈ Lib.splitN s [32] n → x.length ≤ s.length := by
  have key : ∀ (k : Nat) (s x : Bytes), x ∈ Lib.splitK [32] 0 k s → x.length ≤ s.length := by
    intro k
    induction k with
    | zero => intro s x h; simp [Lib.splitK] at h; subst h; exact Nat.le_refl _
    | succ k ih =>
      intro s x h
      unfold Lib.splitK at h
      split at h
      · simp at h; subst h; exact Nat.le_refl _
      · rcases List.mem_cons.1 h with rfl | h
        · rw [List.length_take]; omega
        · have := ih _ x h
          rw [List.length_drop] at this
          omega
  exact key _ s

theorem sm {n : Nat} (h : n ≤ 1000000) : n ≤ maxLen := by unfold maxLen; omega
theorem idx0 {α : Type} (a : α) (l : List α) : idx (a :: l) (0 : Int) = some a := idx_at (i := 0) rfl
theorem idx1 {α : Type} (a b : α) (l : List α) : idx (a :: b :: l) (1 : Int) = some b := idx_at (i := 1) rfl
theorem idx2 {α : Type} (a b c : α) (l : List α) : idx (a :: b :: c :: l) (2 : Int) = some c := idx_at (i := 2) rfl

theorem Parse_eq {l : Bytes} (hl : l.length ≤ 1000000) : start_Parse l = some (parseB l) := by
  unfold start_Parse strings_Split parseB
  rw [chk_pos ⟨Nat.le_refl _, by omega⟩, Option.bind_some]
  have hs := split_small (s := l)
  generalize Lib.split l [32] = w at hs
  match w, hs with
  | [], _ => rfl
  | [_], _ => rfl
  | [_, _], _ => rfl
  | [a, b, v], hs =>
    have h1 := hs a (by simp)
    have h2 := hs b (by simp)
    rw [idx0, idx1, idx2]
    simp only [Option.bind_some]
    rw [minor_eq, Option.bind_some, sRight_eq ⟨sm (by show a.length ≤ _; omega), sm (by show b.length ≤ _; omega), sm (Nat.zero_le _)⟩, Option.bind_some]
    show (bif (((([a, b, v] : List Bytes).length : Nat) : Int) != 3) then _ else _) = some (okS _)
    rw [show (((([a, b, v] : List Bytes).length : Nat) : Int) != 3) = false from rfl, cond_false]
    unfold okS
    cases startB (S_Start.mk a b 0 [] (minorB v)) <;> rfl
  | a :: b :: c :: d :: r, _ =>
    have : (((a :: b :: c :: d :: r).length : Int) != 3) = true := by simp; omega
    rw [this]; rfl

theorem dec_fits (s : Bytes) : 0 ≤ (dec s).1 ∧ (dec s).1 ≤ 1099511627776 := by
  have : (dec s).1 = 0 ∨ (0 ≤ (dec s).1 ∧ (dec s).1 ≤ 1099511627776) := by
    rcases dec_cases s with h | h | h
    · unfold dec decR at h ⊢
      revert h
      cases (s == ([] : Bytes)) with
      | true => intro _; exact .inl rfl
      | false =>
        cases s.all isDig with
        | false => intro _; exact .inl rfl
        | true =>
          cases over s 0 with
          | true => intro _; exact .inl rfl
          | false => intro h; exact absurd (show (0 : Int) = 10 from h) (by omega)
    · unfold dec decR at h ⊢
      revert h
      cases (s == ([] : Bytes)) with
      | true => intro _; exact .inl rfl
      | false =>
        cases s.all isDig with
        | false => intro _; exact .inl rfl
        | true =>
          cases over s 0 with
          | true => intro _; exact .inl rfl
          | false => intro h; exact absurd (show (0 : Int) = 2 from h) (by omega)
    · exact .inr h.2
  omega

theorem splitN3 {s : Bytes} (h : 2 ≤ s.length) : Lib.splitN s [32] 3 = Lib.splitK [32] 0 2 s := by
  unfold Lib.splitN
  rw [show min 3 (s.length + 1) - 1 = 2 by omega]
theorem splitK_le : ∀ (k : Nat) (s : Bytes), (Lib.splitK [32] 0 k s).length ≤ k + 1
  | 0, s => by simp [Lib.splitK]
  | k + 1, s => by
    unfold Lib.splitK
    split
    · simp
    · rw [List.length_cons]; have := splitK_le k (s.drop ((Lib.index s [32]).toNat + ([32] : Bytes).length)); omega
theorem splitN_le (s : Bytes) : (Lib.splitN s [32] 3).length ≤ 3 := by
  unfold Lib.splitN
  have := splitK_le (min 3 (s.length + 1) - 1) s
  omega

theorem Status_eq {l : Bytes} (hl : l.length ≤ 1000000) : start_Status l = some (statusB l) := by
  unfold start_Status strings_SplitN statusB
  rw [chk_pos ⟨by omega, by omega, Nat.le_refl _, by omega⟩, Option.bind_some]
  have hs := splitN_small (s := l) (n := 3)
  have h3 := splitN_le l
  rw [show (3 : Int).toNat = 3 from rfl]
  generalize Lib.splitN l [32] 3 = w at hs h3
  match w, hs, h3 with
  | [], _, _ => rfl
  | [_], _, _ => rfl
  | [v, c], hs, _ =>
    have h2 := hs c (by simp)
    have hd := dec_fits c
    rw [show gidx (!(decide (((([v, c] : List Bytes).length : Nat) : Int) < 2))) [v, c] 1 = some c from idx1 v c [], idx1, idx0]
    simp only [Option.bind_some]
    rw [ReadDec_eq (sm (by omega)), Option.bind_some, minor_eq, Option.bind_some, wrap_i64 (by omega) (by omega)]
    rw [gcall_val (fun _ => sRight_eq ⟨sm (Nat.zero_le _), sm (Nat.zero_le _), sm (Nat.zero_le _)⟩), Option.bind_some]
    show _ = some (statusOf v c [])
    unfold statusOf okS
    rw [show decide (((([v, c] : List Bytes).length : Nat) : Int) < 2) = false from rfl, show (((([v, c] : List Bytes).length : Nat) : Int) == 3) = false from rfl]
    have e : ((c.length : Int) != 3) = !(c.length == 3) := by rw [Bool.eq_iff_iff]; simp; omega
    rw [e]
    have e2 : ((dec c).2 != 0) = !((dec c).2 == 0) := rfl
    rw [e2]
    cases (c.length == 3) <;> cases ((dec c).2 == 0) <;> cases ((dec c).1 == 0) <;> cases startB (S_Start.mk [] [] (dec c).1 [] (minorB v)) <;> rfl
  | [v, c, r], hs, _ =>
    have h2 := hs c (by simp)
    have h3 := hs r (by simp)
    have hd := dec_fits c
    rw [show gidx (!(decide (((([v, c, r] : List Bytes).length : Nat) : Int) < 2))) [v, c, r] 1 = some c from idx1 v c [r], idx1, idx0, idx2]
    simp only [Option.bind_some]
    rw [ReadDec_eq (sm (by omega)), Option.bind_some, minor_eq, Option.bind_some, wrap_i64 (by omega) (by omega)]
    rw [gcall_val (fun _ => sRight_eq (s := S_Start.mk [] [] (dec c).1 r (minorB v)) ⟨sm (Nat.zero_le _), sm (Nat.zero_le _), sm (by show r.length ≤ _; omega)⟩), Option.bind_some]
    show _ = some (statusOf v c r)
    unfold statusOf okS
    rw [show decide (((([v, c, r] : List Bytes).length : Nat) : Int) < 2) = false from rfl, show (((([v, c, r] : List Bytes).length : Nat) : Int) == 3) = true from rfl]
    have e : ((c.length : Int) != 3) = !(c.length == 3) := by rw [Bool.eq_iff_iff]; simp; omega
    rw [e]
    have e2 : ((dec c).2 != 0) = !((dec c).2 == 0) := rfl
    rw [e2]
    cases (c.length == 3) <;> cases ((dec c).2 == 0) <;> cases ((dec c).1 == 0) <;> cases startB (S_Start.mk [] [] (dec c).1 r (minorB v)) <;> rfl
  | a :: b :: c :: d :: r, _, h3 => simp at h3

/-! ### What is written -/
def printB (s : S_Start) : Bytes :=
  bif s.Code == 0 then s.Method ++ 32 :: (s.Target ++ 32 :: ver s.Minor.toNat) else ver s.Minor.toNat ++ 32 :: (Lib.decDigits s.Code.toNat ++ 32 :: s.Reason)
theorem join3 (a b c : Bytes) : Lib.join [a, b, c] [32] = a ++ 32 :: (b ++ 32 :: c) := by simp [Lib.join, List.intercalate]
structure SSm (s : S_Start) : Prop where
  method : s.Method.length ≤ 1000000
  target : s.Target.length ≤ 1000000
  reason : s.Reason.length ≤ 1000000
theorem SSm.small {s : S_Start} (h : SSm s) : SSmall s := ⟨sm h.method, sm h.target, sm h.reason⟩
theorem startB_minor {s : S_Start} (h : startB s = true) : s.Minor = 0 ∨ s.Minor = 1 := by
  unfold startB at h
  rw [Bool.and_eq_true, Bool.or_eq_true] at h
  rcases h.1 with h | h
  · exact .inl (eq_of_beq h)
  · exact .inr (eq_of_beq h)
theorem startB_code {s : S_Start} (h : startB s = true) : s.Code = 0 ∨ (100 ≤ s.Code ∧ s.Code ≤ 599) := by
  unfold startB at h
  rw [Bool.and_eq_true] at h
  have h2 := h.2
  cases hc : (s.Code == 0) with
  | true => exact .inl (eq_of_beq hc)
  | false =>
    rw [hc, cond_false, Bool.and_eq_true, Bool.and_eq_true] at h2
    exact .inr ⟨of_decide_eq_true h2.1.1, of_decide_eq_true h2.1.2⟩
theorem ver_cases {m : Int} (h : m = 0 ∨ m = 1) : ver m.toNat = [72, 84, 84, 80, 47, 49, 46, 48] ∨ ver m.toNat = [72, 84, 84, 80, 47, 49, 46, 49] := by
  unfold ver
  rcases h with rfl | rfl
  · left; rw [show (0 : Int).toNat = 0 from rfl, digits_lo (by omega)]; rfl
  · right; rw [show (1 : Int).toNat = 1 from rfl, digits_lo (by omega)]; rfl
theorem ver_len {m : Int} (h : m = 0 ∨ m = 1) : (ver m.toNat).length = 8 := by rcases ver_cases h with e | e <;> rw [e] <;> rfl
theorem ver_back {m : Int} (h : m = 0 ∨ m = 1) : minorB (ver m.toNat) = m := by
  unfold minorB
  have e0 : ver 0 = [72, 84, 84, 80, 47, 49, 46, 48] := by unfold ver; rw [digits_lo (by omega)]; rfl
  have e1 : ver 1 = [72, 84, 84, 80, 47, 49, 46, 49] := by unfold ver; rw [digits_lo (by omega)]; rfl
  rcases h with rfl | rfl
  · rw [show (0 : Int).toNat = 0 from rfl, e0, e1]; rfl
  · rw [show (1 : Int).toNat = 1 from rfl, e0, e1]; rfl
theorem digits_len {n : Nat} (h : n < 1000) : (Lib.decDigits n).length ≤ 3 := by
  by_cases h1 : n < 10
  · rw [digits_lo h1]; simp
  rw [digits_hi h1]
  by_cases h2 : n / 10 < 10
  · rw [digits_lo h2]; simp
  rw [digits_hi h2, digits_lo (by omega)]; simp
theorem digits_len3 {n : Nat} (h0 : 100 ≤ n) (h : n < 1000) : (Lib.decDigits n).length = 3 := by
  rw [digits_hi (by omega), digits_hi (by omega), digits_lo (by omega)]; rfl
theorem Print_eq {s : S_Start} (h : SSm s) : start_Print s = some (bif startB s then (printB s, 0) else ([], 1)) := by
  unfold start_Print
  rw [sRight_eq h.small, Option.bind_some]
  cases hs : startB s with
  | false => rfl
  | true =>
    have hm := startB_minor hs
    have hc := startB_code hs
    have hd : number_Dec (IntKind.u64.wrap s.Minor) = some (Lib.decDigits s.Minor.toNat) := by
      rw [wrap_u64 (by omega) (by omega), show s.Minor = (s.Minor.toNat : Int) by omega]
      exact Dec_eq _ (by omega)
    rw [hd, Option.bind_some, cat_ok (by have := digits_len (n := s.Minor.toNat) (by omega); unfold maxLen; show 7 + _ ≤ _; omega), Option.bind_some]
    have hv := ver_len hm
    show (bif (!true) then _ else (bif s.Code == 0 then (strings_Join [s.Method, s.Target, ver s.Minor.toNat] [32]).bind _ else (number_Dec (IntKind.u64.wrap s.Code)).bind fun x5 => (strings_Join [ver s.Minor.toNat, x5, s.Reason] [32]).bind _)) = some (printB s, 0)
    unfold printB
    cases hc0 : (s.Code == 0) with
    | true =>
      rw [cond_true, cond_true]
      unfold strings_Join
      rw [join3, chk_pos ⟨by show 3 ≤ _; omega, by have := h.method; have := h.target; simp; omega⟩]
      rfl
    | false =>
      rw [cond_false, cond_false]
      have hc' : 100 ≤ s.Code ∧ s.Code ≤ 599 := by rcases hc with h | h; · rw [h] at hc0; cases hc0
                                                   · exact h
      have hd2 : number_Dec (IntKind.u64.wrap s.Code) = some (Lib.decDigits s.Code.toNat) := by
        rw [wrap_u64 (by omega) (by omega)]
        have := Dec_eq s.Code.toNat (by omega)
        rwa [show ((s.Code.toNat : Nat) : Int) = s.Code by omega] at this
      rw [hd2, Option.bind_some]
      unfold strings_Join
      have := digits_len (n := s.Code.toNat) (by omega)
      rw [join3, chk_pos ⟨by show 3 ≤ _; omega, by have := h.reason; simp; omega⟩]
      rfl

/-! ### Written, and read again -/
theorem noSp_of {p : UInt8 → Bool} {s : Bytes} (hp : p 32 = false) (h : s.all p = true) : noSp s = true := by
  unfold noSp
  cases hc : s.contains 32 with
  | false => rfl
  | true =>
    have := List.contains_iff_mem.1 hc
    rw [List.all_eq_true] at h
    rw [h _ this] at hp; cases hp
theorem token_noSp {s : Bytes} (h : tokenB s = true) : noSp s = true := by
  unfold tokenB at h
  rw [Bool.and_eq_true] at h
  exact noSp_of (p := wordB) rfl h.2
theorem target_noSp {s : Bytes} (h : targetB s = true) : noSp s = true := by
  unfold targetB at h
  rw [Bool.or_eq_true, Bool.and_eq_true, Bool.and_eq_true] at h
  rcases h with h | h
  · rw [eq_of_beq h]; rfl
  · refine noSp_of (p := fun b => !badU b) (by decide) ?_
    have := h.2.2
    rw [← List.not_any_eq_all_not]; exact this
theorem ver_noSp {m : Int} (h : m = 0 ∨ m = 1) : noSp (ver m.toNat) = true := by rcases ver_cases h with e | e <;> rw [e] <;> rfl
theorem ver_noTok {m : Int} (h : m = 0 ∨ m = 1) : tokenB (ver m.toNat) = false := by rcases ver_cases h with e | e <;> rw [e] <;> rfl
theorem digits_noSp (n : Nat) : noSp (Lib.decDigits n) = true := noSp_of (p := isDig) rfl (digits_all n)
theorem tok_noMinor {s : Bytes} (h : tokenB s = true) : minorB s = 2 := by
  unfold minorB
  have e0 : ver 0 = [72, 84, 84, 80, 47, 49, 46, 48] := by unfold ver; rw [digits_lo (by omega)]; rfl
  have e1 : ver 1 = [72, 84, 84, 80, 47, 49, 46, 49] := by unfold ver; rw [digits_lo (by omega)]; rfl
  rw [e0, e1]
  cases h0 : (s == ([72, 84, 84, 80, 47, 49, 46, 48] : Bytes)) with
  | true => rw [eq_of_beq h0] at h; exact absurd h (by decide)
  | false =>
    cases h1 : (s == ([72, 84, 84, 80, 47, 49, 46, 49] : Bytes)) with
    | true => rw [eq_of_beq h1] at h; exact absurd h (by decide)
    | false => rfl
theorem okS_minor2 {s : S_Start} (h : s.Minor = 2) : okS s = (zeroS, 30) := by
  unfold okS startB
  rw [h]; rfl
theorem statusOf_bad {v c r : Bytes} (h : minorB v = 2) : statusOf v c r = (zeroS, 30) := by
  unfold statusOf
  rw [h]
  cases (c.length == 3 && ((dec c).2 == 0 && !((dec c).1 == 0))) with
  | true => exact okS_minor2 (s := S_Start.mk [] [] (dec c).1 r 2) rfl
  | false => rfl
theorem splitN_two {a b t : Bytes} (ha : noSp a = true) (hb : noSp b = true) : Lib.splitN (a ++ 32 :: (b ++ 32 :: t)) [32] 3 = [a, b, t] := by
  rw [splitN3 (by simp; omega), splitK_at ha, splitK_at hb]; rfl
theorem splitN_one {a b : Bytes} (ha : noSp a = true) (hb : noSp b = true) (hn : b ≠ []) : Lib.splitN (a ++ 32 :: b) [32] 3 = [a, b] := by
  rw [splitN3 (by cases b with | nil => exact absurd rfl hn | cons x l => simp; omega), splitK_at ha, splitK_no hb]
theorem print0 {s : S_Start} (h : startB s = true) (h0 : s.Code = 0) : parseB (printB s) = (s, 0) ∧ statusB (printB s) = (zeroS, 30) := by
  have hm := startB_minor h
  have h' := h
  unfold startB at h'
  rw [Bool.and_eq_true, h0, show ((0 : Int) == 0) = true from rfl, cond_true, Bool.and_eq_true, Bool.and_eq_true, Bool.and_eq_true] at h'
  have hr := eq_of_beq h'.2.1
  have ht := token_noSp h'.2.2.1
  have hg := target_noSp h'.2.2.2.2
  have hp : printB s = s.Method ++ 32 :: (s.Target ++ 32 :: ver s.Minor.toNat) := by unfold printB; rw [h0]; rfl
  rw [hp]
  unfold parseB statusB
  rw [split_at _ ht, split_at _ hg, split_no (ver_noSp hm), splitN_two ht hg]
  constructor
  · show okS (S_Start.mk s.Method s.Target 0 [] (minorB (ver s.Minor.toNat))) = _
    rw [ver_back hm]
    have : S_Start.mk s.Method s.Target 0 [] s.Minor = s := by rw [← hr, ← h0]
    rw [this]; unfold okS; rw [h]; rfl
  · exact statusOf_bad (tok_noMinor h'.2.2.1)
theorem parseW_bad {v : Bytes} {l : List Bytes} (h : tokenB v = false) : parseW (v :: l) = (zeroS, 30) := by
  match l with
  | [] => rfl
  | [_] => rfl
  | [b, c] =>
    show okS (S_Start.mk v b 0 [] (minorB c)) = _
    unfold okS startB
    rw [h]
    simp only [Bool.false_and, Bool.and_false, cond_false]
    show (bif _ && (bif (0 : Int) == 0 then false else _) then _ else _) = _
    rw [show ((0 : Int) == 0) = true from rfl, cond_true, Bool.and_false]; rfl
  | _ :: _ :: _ :: _ => rfl
theorem print1 {s : S_Start} (h : startB s = true) (h0 : s.Code ≠ 0) : parseB (printB s) = (zeroS, 30) ∧ statusB (printB s) = (s, 0) := by
  have hm := startB_minor h
  have hc : 100 ≤ s.Code ∧ s.Code ≤ 599 := by rcases startB_code h with h | h; · exact absurd h h0
                                              · exact h
  have hb : (s.Code == 0) = false := by simpa using h0
  have h' := h
  unfold startB at h'
  rw [Bool.and_eq_true, hb, cond_false, Bool.and_eq_true, Bool.and_eq_true, Bool.and_eq_true, Bool.and_eq_true] at h'
  have hmt := eq_of_beq h'.2.2.1
  have htg := eq_of_beq h'.2.2.2.1
  have hp : printB s = ver s.Minor.toNat ++ 32 :: (Lib.decDigits s.Code.toNat ++ 32 :: s.Reason) := by unfold printB; rw [hb]; rfl
  rw [hp]
  unfold parseB statusB
  rw [split_at _ (ver_noSp hm), splitN_two (ver_noSp hm) (digits_noSp _)]
  refine ⟨parseW_bad (ver_noTok hm), ?_⟩
  show statusOf _ _ _ = _
  unfold statusOf
  rw [dec_digits (by omega), digits_len3 (by omega) (by omega), ver_back hm]
  have e : ((s.Code.toNat : Nat) : Int) = s.Code := by omega
  simp only [e, hb]
  have : S_Start.mk [] [] s.Code s.Reason s.Minor = s := by cases s; simp only at hmt htg; subst hmt htg; rfl
  rw [this]; unfold okS; rw [h]; rfl

theorem okS_cases (s : S_Start) : (startB s = true ∧ okS s = (s, 0)) ∨ okS s = (zeroS, 30) := by
  unfold okS
  cases h : startB s with
  | true => exact .inl ⟨rfl, rfl⟩
  | false => exact .inr rfl
theorem parse_cases (l : Bytes) : (∃ s, parseB l = (s, 0) ∧ startB s = true ∧ s.Code = 0 ∧ s.Method.length ≤ l.length ∧ s.Target.length ≤ l.length ∧ s.Reason = []) ∨ parseB l = (zeroS, 30) := by
  unfold parseB
  have hs := split_small (s := l)
  generalize Lib.split l [32] = w at hs
  match w, hs with
  | [], _ => exact .inr rfl
  | [_], _ => exact .inr rfl
  | [_, _], _ => exact .inr rfl
  | [a, b, v], hs =>
    rcases okS_cases (S_Start.mk a b 0 [] (minorB v)) with ⟨h1, h2⟩ | h
    · exact .inl ⟨_, h2, h1, rfl, hs a (by simp), hs b (by simp), rfl⟩
    · exact .inr h
  | _ :: _ :: _ :: _ :: _, _ => exact .inr rfl
theorem statusOf_cases (v c r : Bytes) : (∃ s, statusOf v c r = (s, 0) ∧ startB s = true ∧ s.Code ≠ 0 ∧ s.Method = [] ∧ s.Target = [] ∧ s.Reason = r) ∨ statusOf v c r = (zeroS, 30) := by
  unfold statusOf
  cases hb : (c.length == 3 && ((dec c).2 == 0 && !((dec c).1 == 0))) with
  | false => exact .inr rfl
  | true =>
    rw [Bool.and_eq_true, Bool.and_eq_true] at hb
    have hne : (dec c).1 ≠ 0 := by have := hb.2.2; simpa using this
    rcases okS_cases (S_Start.mk [] [] (dec c).1 r (minorB v)) with ⟨h1, h2⟩ | h
    · exact .inl ⟨_, h2, h1, hne, rfl, rfl, rfl⟩
    · exact .inr h
theorem status_cases (l : Bytes) : (∃ s, statusB l = (s, 0) ∧ startB s = true ∧ s.Code ≠ 0 ∧ s.Method = [] ∧ s.Target = [] ∧ s.Reason.length ≤ l.length) ∨ statusB l = (zeroS, 30) := by
  unfold statusB
  have hs := splitN_small (s := l) (n := 3)
  generalize Lib.splitN l [32] 3 = w at hs
  match w, hs with
  | [], _ => exact .inr rfl
  | [_], _ => exact .inr rfl
  | [v, c], _ =>
    rcases statusOf_cases v c [] with ⟨s, h1, h2, h3, h4, h5, h6⟩ | h
    · exact .inl ⟨s, h1, h2, h3, h4, h5, by rw [h6]; exact Nat.zero_le _⟩
    · exact .inr h
  | [v, c, r], hs =>
    rcases statusOf_cases v c r with ⟨s, h1, h2, h3, h4, h5, h6⟩ | h
    · exact .inl ⟨s, h1, h2, h3, h4, h5, by rw [h6]; exact hs r (by simp)⟩
    · exact .inr h
  | _ :: _ :: _ :: _ :: _, _ => exact .inr rfl
theorem printB_len {s : S_Start} (hs : SSm s) (h : startB s = true) : (printB s).length ≤ s.Method.length + s.Target.length + s.Reason.length + 20 := by
  have hm := startB_minor h
  have hc := startB_code h
  have hv := ver_len hm
  have := digits_len (n := s.Code.toNat) (by omega)
  unfold printB
  cases (s.Code == 0) <;> simp <;> omega

/-! ### StartBack -/
theorem sfew_eq (s : S_Start) : intarsialaw06_few s = some (cutS s) := by
  unfold intarsialaw06_few
  rw [slc_cut s.Method 40 (K := 40) rfl, Option.bind_some, slc_cut s.Target 520 (K := 520) rfl, Option.bind_some, slc_cut s.Reason 120 (K := 120) rfl]; rfl
theorem cutS_sm (s : S_Start) : SSm (cutS s) := ⟨by unfold cutS; simp; omega, by unfold cutS; simp; omega, by unfold cutS; simp; omega⟩
theorem cutS_len (s : S_Start) : (cutS s).Method.length ≤ 40 ∧ (cutS s).Target.length ≤ 520 ∧ (cutS s).Reason.length ≤ 120 := ⟨by unfold cutS; simp; omega, by unfold cutS; simp; omega, by unfold cutS; simp; omega⟩
theorem salive_eq : intarsialaw06_alive = some true := by
  unfold intarsialaw06_alive
  rw [Parse_eq (by decide), Option.bind_some]
  have : parseB [71, 69, 84, 32, 47, 120, 32, 72, 84, 84, 80, 47, 49, 46, 49] = (S_Start.mk [71, 69, 84] [47, 120] 0 [] 1, 0) := by
    have h := (print0 (s := S_Start.mk [71, 69, 84] [47, 120] 0 [] 1) (by kernel_rfl) rfl).1
    have e : printB (S_Start.mk [71, 69, 84] [47, 120] 0 [] 1) = [71, 69, 84, 32, 47, 120, 32, 72, 84, 84, 80, 47, 49, 46, 49] := by
      unfold printB ver
      rw [show (S_Start.mk [71, 69, 84] [47, 120] 0 [] 1).Minor.toNat = 1 from rfl, digits_lo (by omega)]; rfl
    rwa [e] at h
  rw [this]; rfl
def readB (i : Nat) (l : Bytes) : S_Start × Int := bif i == 0 then parseB l else statusB l
theorem disp_eq (i : Nat) {x : Nat} (h : ([26, 27] : List Nat)[i]? = some x) {l : Bytes} (hl : l.length ≤ 1000000) : disp_50 x l = some (readB i l) := by
  match i, h with
  | 0, h => cases h; exact Parse_eq hl
  | 1, h => cases h; exact Status_eq hl
theorem read_cases (i : Nat) (l : Bytes) (hl : l.length ≤ 1000) : (∃ s, readB i l = (s, 0) ∧ startB s = true ∧ SSm s ∧ (printB s).length ≤ 1000000 ∧ readB i (printB s) = (s, 0)) ∨ readB i l = (zeroS, 30) := by
  unfold readB
  cases hi : (i == 0) with
  | true =>
    rw [cond_true]
    rcases parse_cases l with ⟨s, h1, h2, h3, h4, h5, h6⟩ | h
    · have hs : SSm s := ⟨by omega, by omega, by rw [h6]; exact Nat.zero_le _⟩
      have := printB_len hs h2
      exact .inl ⟨s, h1, h2, hs, by rw [h6] at this; simp at this; omega, by rw [cond_true]; exact (print0 h2 h3).1⟩
    · exact .inr h
  | false =>
    rw [cond_false]
    rcases status_cases l with ⟨s, h1, h2, h3, h4, h5, h6⟩ | h
    · have hs : SSm s := ⟨by rw [h4]; exact Nat.zero_le _, by rw [h5]; exact Nat.zero_le _, by omega⟩
      have := printB_len hs h2
      exact .inl ⟨s, h1, h2, hs, by rw [h4, h5] at this; simp at this; omega, by rw [cond_false]; exact (print1 h2 h3).2⟩
    · exact .inr h
theorem eqS (s : S_Start) : ((s.Method == s.Method) && ((s.Target == s.Target) && ((s.Code == s.Code) && ((s.Reason == s.Reason) && ((s.Minor == s.Minor) && true))))) = true := by simp
theorem back_round {line : Bytes} (hl : line.length ≤ 1000) (i : Nat) (hi : i < 2) : intarsialaw06_StartBack_b1 line (i : Int) = some (.inl ((i + 1 : Nat) : Int)) := by
  unfold intarsialaw06_StartBack_b1
  obtain ⟨x, hx⟩ : ∃ x, ([26, 27] : List Nat)[i]? = some x := ⟨_, List.getElem?_eq_getElem hi⟩
  rw [show decide ((i : Int) < ((([(26 : Nat), (27 : Nat)] : List Nat).length : Nat) : Int)) = true by simp; omega, cond_true, idx_at hx, Option.bind_some, disp_eq i hx (by omega), Option.bind_some]
  have hinc : IntKind.i64.wrap ((i : Int) + (1 : Int)) = ((i + 1 : Nat) : Int) := by rw [wrap_i64 (by omega) (by omega)]; omega
  rw [hinc]
  rcases read_cases i line hl with ⟨s, h1, h2, h3, h4, h5⟩ | h
  · rw [h1]
    simp only [show ((0 : Int) != 0) = false from rfl, cond_false]
    rw [Print_eq h3, h2, cond_true, Option.bind_some, disp_eq i hx h4, Option.bind_some, h5, gcall_val (fun _ => sRight_eq h3.small), Option.bind_some, h2]
    simp only [eqS]
    rfl
  · rw [h]; rfl
theorem back_end {line : Bytes} : intarsialaw06_StartBack_b1 line (2 : Int) = some (.inr true) := by
  unfold intarsialaw06_StartBack_b1
  rw [salive_eq]; rfl
theorem back_loop {line : Bytes} (hl : line.length ≤ 1000) : loopO (intarsialaw06_StartBack_b1 line) (0 : Int) = some true := by
  rw [loopO_eq, show intarsialaw06_StartBack_b1 line (0 : Int) = _ from back_round hl 0 (by omega)]
  show loopO _ _ = _
  rw [loopO_eq, show intarsialaw06_StartBack_b1 line ((0 + 1 : Nat) : Int) = _ from back_round hl 1 (by omega)]
  show loopO _ _ = _
  rw [loopO_eq, show intarsialaw06_StartBack_b1 line ((1 + 1 : Nat) : Int) = _ from back_end]
theorem back_loop2 {line : Bytes} (hl : line.length ≤ 1000) : loopO (intarsialaw06_StartBack_b2 line) (0 : Int) = some true := back_loop hl
theorem StartBack_true (s : S_Start) (line : Bytes) : intarsialaw06_StartBack s line = some true := by
  unfold intarsialaw06_StartBack
  have hs := cutS_sm s
  have hl0 := cutS_len s
  have hline : (line.take 600).length ≤ 1000 := by simp; omega
  rw [sfew_eq, Option.bind_some, slc_cut line 600 (K := 600) rfl, Option.bind_some]
  generalize cutS s = x at hs hl0
  generalize line.take 600 = y at hline
  rw [Print_eq hs, Option.bind_some]
  cases h : startB x with
  | false => exact back_loop2 hline
  | true =>
    have hp := printB_len hs h
    rw [cond_true]
    show (bif ((0 : Int) == 0) then _ else _) = _
    rw [show ((0 : Int) == 0) = true from rfl, cond_true]
    rw [Parse_eq (by show (printB x).length ≤ _; omega), Option.bind_some, Status_eq (by show (printB x).length ≤ _; omega), Option.bind_some]
    by_cases h0 : x.Code = 0
    · obtain ⟨h1, h2⟩ := print0 h h0
      rw [show parseB ((printB x, (0 : Int)).1) = _ from h1, show statusB ((printB x, (0 : Int)).1) = _ from h2]
      have e0 := eqS x
      rw [h0] at e0
      simp only [e0, back_loop hline, h0]
      rfl
    · obtain ⟨h1, h2⟩ := print1 h h0
      rw [show parseB ((printB x, (0 : Int)).1) = _ from h1, show statusB ((printB x, (0 : Int)).1) = _ from h2]
      have hb : (x.Code == 0) = false := by simpa using h0
      have hb' : (x.Code != 0) = true := by simpa using h0
      simp only [eqS, back_loop hline, hb, hb']
      rfl
end Go.Proofs.YtbgldnleackgeaaDoor
