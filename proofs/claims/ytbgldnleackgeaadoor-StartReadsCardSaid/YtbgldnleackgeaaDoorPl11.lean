/-
  Plain laws, 11: StartReads holds.
-/
import Derived.Test.YtbgldnleackgeaaDoorPl10
namespace Go.Proofs.YtbgldnleackgeaaDoor
open Go Go.Pm
set_option linter.unusedVariables false

/-! ### The reference's cut -/
def cutW : Bytes → Bytes × Bytes × Bool
  | [] => ([], [], false)
  | x :: s => bif x == 32 then ([], s, true) else (x :: (cutW s).1, (cutW s).2)
theorem cutW_no : ∀ {s : Bytes}, noSp s = true → cutW s = (s, [], false)
  | [], _ => rfl
  | x :: s, h => by
    obtain ⟨h1, h2⟩ := noSp_cons h
    unfold cutW
    have : (x == 32) = false := by simpa using h1
    rw [this, cutW_no h2]; rfl
theorem cutW_at : ∀ {a : Bytes} (t : Bytes), noSp a = true → cutW (a ++ 32 :: t) = (a, t, true)
  | [], t, _ => rfl
  | x :: a, t, h => by
    obtain ⟨h1, h2⟩ := noSp_cons h
    rw [List.cons_append]
    unfold cutW
    have : (x == 32) = false := by simpa using h1
    rw [this, cutW_at t h2]; rfl
theorem cut_loop {s : Bytes} (hs : s.length ≤ maxLen) : ∀ (r : Bytes) (i : Nat), s.drop i = r → i ≤ s.length → loopO (intarsiaref06_cut_b1 s) (i : Int) = some (s.take i ++ (cutW r).1, (cutW r).2)
  | [], i, h, hi => by
    have hi' : i = s.length := by
      have := congrArg List.length h
      rw [List.length_drop] at this
      simp at this; omega
    subst hi'
    rw [loopO_eq]
    unfold intarsiaref06_cut_b1
    rw [dlt_self, cond_false, List.take_length]
    simp [cutW]
  | x :: r, i, h, hi => by
    have hx : s[i]? = some x := by
      have := congrArg (fun l => l[0]?) h
      simpa using this
    have hlt := lt_of_get hx
    have hr : s.drop (i + 1) = r := by
      have := congrArg List.tail h
      simpa using this
    have hb : ((x.toNat : Int) == (32 : Int)) = (x == 32) := byte_eq (p := fun x => ((x.toNat : Int) == (32 : Int))) (q := fun x => x == 32) (by kernel_rfl) x
    have hbody : intarsiaref06_cut_b1 s (i : Int) = bif x == 32 then some (.inr (s.take i, r, true)) else some (.inl ((i + 1 : Nat) : Int)) := by
      unfold intarsiaref06_cut_b1
      rw [dlt_true hlt, cond_true, idx_at hx, Option.bind_some, wrap_inc hlt hs, hb]
      have h1 : slc s 0 (i : Int) = some (s.take i) := by
        unfold slc
        rw [chk_pos (by omega)]; simp
      have h2 : slc s ((i + 1 : Nat) : Int) (s.length : Int) = some r := by
        unfold slc
        rw [chk_pos (by omega)]
        show some ((s.drop (i + 1)).take (s.length - (i + 1))) = some r
        rw [hr, List.take_of_length_le (by rw [← hr, List.length_drop]; exact Nat.le_refl _)]
      rw [h1, Option.bind_some, h2, Option.bind_some]
    rw [loopO_eq, hbody]
    unfold cutW
    cases hc : (x == 32) with
    | true => simp
    | false =>
      show loopO (intarsiaref06_cut_b1 s) ((i + 1 : Nat) : Int) = _
      rw [cut_loop hs r (i + 1) hr hlt]
      have : s.take (i + 1) = s.take i ++ [x] := by rw [List.take_add_one, hx]; rfl
      rw [this]; simp
theorem cut_eq {s : Bytes} (hs : s.length ≤ maxLen) : intarsiaref06_cut s = some (cutW s) := by
  unfold intarsiaref06_cut
  have := cut_loop hs s 0 rfl (Nat.zero_le _)
  rw [show ((0 : Nat) : Int) = 0 from rfl] at this
  rw [this]; simp
theorem cutW_le (s : Bytes) : (cutW s).1.length ≤ s.length ∧ (cutW s).2.1.length ≤ s.length := by
  rcases sp_cases s with h | ⟨a, t, rfl, h⟩
  · rw [cutW_no h]; exact ⟨Nat.le_refl _, Nat.zero_le _⟩
  · rw [cutW_at t h]; simp; omega

/-! ### The reference's writing -/
theorem refDigits {n : Int} (h : 0 ≤ n) (h' : n ≤ 1000000) : intarsiaref02_Digits (IntKind.u64.wrap n) (10 : Int) = some (Lib.decDigits n.toNat) := by
  rw [wrap_u64 h (by omega)]
  have := Digits_eq n.toNat (by omega)
  rwa [show ((n.toNat : Nat) : Int) = n by omega] at this
theorem refPrint_eq {s : S_Start} (h : SSm s) (hs : startB s = true) : intarsiaref06_Print s = some (printB s) := by
  unfold intarsiaref06_Print printB
  have hm := startB_minor hs
  have hc := startB_code hs
  have hv := ver_len hm
  have h1 := h.method
  have h2 := h.target
  have h3 := h.reason
  have h4 := digits_len (n := s.Minor.toNat) (by omega)
  rw [refDigits (by omega) (by omega), Option.bind_some, cat_ok (by unfold maxLen; show 7 + _ ≤ _; omega), Option.bind_some]
  rw [show ([72, 84, 84, 80, 47, 49, 46] : Bytes) ++ Lib.decDigits s.Minor.toNat = ver s.Minor.toNat from rfl]
  cases hb : (s.Code == 0) with
  | true =>
    rw [cond_true, cond_true, cat_ok (by unfold maxLen; simp; omega), Option.bind_some, cat_ok (by unfold maxLen; simp; omega), Option.bind_some, cat_ok (by unfold maxLen; simp; omega), Option.bind_some,
      cat_ok (s := s.Method ++ [32] ++ s.Target ++ [32]) (t := ver s.Minor.toNat) (by unfold maxLen; simp; omega)]
    simp [ver]
  | false =>
    have h5 := digits_len (n := s.Code.toNat) (by omega)
    rw [cond_false, cond_false, cat_ok (s := ver s.Minor.toNat) (t := [32]) (by unfold maxLen; simp; omega), Option.bind_some, refDigits (by omega) (by omega), Option.bind_some, cat_ok (by unfold maxLen; simp; omega), Option.bind_some, cat_ok (by unfold maxLen; simp; omega), Option.bind_some,
      cat_ok (by unfold maxLen; simp; omega)]
    simp [ver]

/-! ### Parse -/
def refm (v : Bytes) : Int := bif v == ver 1 then 1 else 0
theorem ver1 : ver 1 = [72, 84, 84, 80, 47, 49, 46, 49] := by unfold ver; rw [digits_lo (by omega)]; rfl
theorem ver0 : ver 0 = [72, 84, 84, 80, 47, 49, 46, 48] := by unfold ver; rw [digits_lo (by omega)]; rfl
theorem refm_cases (v : Bytes) : (refm v = 1 ∧ v = ver 1) ∨ (refm v = 0 ∧ v ≠ ver 1) := by
  unfold refm
  cases h : (v == ver 1) with
  | true => exact .inl ⟨rfl, eq_of_beq h⟩
  | false => exact .inr ⟨rfl, by simpa using h⟩
def endS (s : S_Start) (l : Bytes) : S_Start × Int := bif (bif (!(startB s)) then true else (!(printB s == l))) then (zeroS, 30) else (s, 0)
theorem refEnd {s : S_Start} (h : SSm s) (l : Bytes) : ((intarsiaref06_Right s).bind fun x3 => (gcall (!(!x3)) (intarsiaref06_Print s)).bind fun x4 =>
    bif (bif (!x3) then true else (!(x4 == l))) then some ((S_Start.mk ([] : Bytes) ([] : Bytes) (0 : Int) ([] : Bytes) (0 : Int)), (30 : Int)) else some (s, (0 : Int))) = some (endS s l) := by
  rw [refSRight_eq h.small, Option.bind_some]
  unfold endS
  cases hs : startB s with
  | false => rfl
  | true =>
    rw [gcall_tt (by rfl), refPrint_eq h hs, Option.bind_some]
    cases (printB s == l) <;> rfl
theorem refParse_split {l : Bytes} (hl : l.length ≤ 1000000) : intarsiaref06_Parse l = some (endS (S_Start.mk (cutW l).1 (cutW (cutW l).2.1).1 0 [] (refm (cutW (cutW l).2.1).2.1)) l) := by
  unfold intarsiaref06_Parse
  have h1 := cutW_le l
  have h2 := cutW_le (cutW l).2.1
  rw [cut_eq (sm hl), Option.bind_some, cut_eq (sm (by omega)), Option.bind_some]
  have hsm : ∀ m : Int, SSm (S_Start.mk (cutW l).1 (cutW (cutW l).2.1).1 0 [] m) := fun m => ⟨by show (cutW l).1.length ≤ _; omega, by show (cutW (cutW l).2.1).1.length ≤ _; omega, Nat.zero_le _⟩
  rw [← ver1]
  unfold refm
  cases hv : ((cutW (cutW l).2.1).2.1 == ver 1) with
  | true => exact refEnd (hsm 1) l
  | false => exact refEnd (hsm 0) l
theorem endS_bad {s : S_Start} {l : Bytes} (h : startB s = true → printB s = l → False) : endS s l = (zeroS, 30) := by
  unfold endS
  cases hs : startB s with
  | false => rfl
  | true =>
    cases hp : (printB s == l) with
    | false => rfl
    | true => exact (h hs (eq_of_beq hp)).elim
theorem endS_okS {s : S_Start} {l : Bytes} (h : startB s = true → printB s = l) : endS s l = okS s := by
  unfold endS okS
  cases hs : startB s with
  | false => rfl
  | true => rw [h hs]; simp
theorem no_target {m : Bytes} {i : Int} : startB (S_Start.mk m [] 0 [] i) = false := by
  unfold startB
  have : targetB [] = false := by kernel_rfl
  rw [show ((S_Start.mk m [] 0 [] i).Code == 0) = true from rfl, cond_true, this]
  simp
theorem refParse_eq {l : Bytes} (hl : l.length ≤ 1000000) : intarsiaref06_Parse l = some (parseB l) := by
  rw [refParse_split hl]
  refine congrArg some ?_
  rcases sp_cases l with h1 | ⟨a, t, rfl, h1⟩
  · rw [cutW_no h1]
    unfold parseB
    rw [split_no h1]
    exact endS_bad fun h _ => by
      have : startB (S_Start.mk l [] 0 [] (refm [])) = true := h
      rw [no_target] at this; cases this
  rw [cutW_at t h1]
  unfold parseB
  rw [split_at t h1]
  rcases sp_cases t with h2 | ⟨b, v, rfl, h2⟩
  · rw [split_no h2]
    show endS (S_Start.mk a (cutW t).1 0 [] (refm (cutW t).2.1)) _ = _
    rw [cutW_no h2]
    refine endS_bad fun hs h => ?_
    have hm := startB_minor hs
    have h3 : a ++ 32 :: (t ++ 32 :: ver (refm []).toNat) = a ++ 32 :: t := h
    have := congrArg List.length h3
    simp at this
  rw [split_at v h2]
  show endS (S_Start.mk a (cutW (b ++ 32 :: v)).1 0 [] (refm (cutW (b ++ 32 :: v)).2.1)) _ = _
  rw [cutW_at v h2]
  show endS (S_Start.mk a b 0 [] (refm v)) _ = _
  have hp : printB (S_Start.mk a b 0 [] (refm v)) = a ++ 32 :: (b ++ 32 :: ver (refm v).toNat) := rfl
  have hinj : a ++ 32 :: (b ++ 32 :: ver (refm v).toNat) = a ++ 32 :: (b ++ 32 :: v) → ver (refm v).toNat = v := fun h => by
    have h3 := List.append_cancel_left h
    injection h3 with _ h3
    have h4 := List.append_cancel_left h3
    injection h4 with _ h4
  rcases sp_cases v with h3 | ⟨c, u, rfl, h3⟩
  · rw [split_no h3]
    show _ = okS (S_Start.mk a b 0 [] (minorB v))
    rcases minorB_cases v with ⟨e, rfl⟩ | ⟨e, rfl⟩ | ⟨e, e0, e1⟩
    · have : refm (ver 0) = 0 := by unfold refm; rw [ver0, ver1]; rfl
      rw [e, this]
      exact endS_okS fun _ => rfl
    · have : refm (ver 1) = 1 := by unfold refm; rw [ver1]; rfl
      rw [e, this]
      exact endS_okS fun _ => rfl
    · rw [okS_minor2 (s := S_Start.mk a b 0 [] (minorB v)) e]
      refine endS_bad fun _ h => ?_
      have h4 := hinj h
      rcases refm_cases v with ⟨e2, e3⟩ | ⟨e2, e3⟩
      · exact e1 e3
      · rw [e2] at h4; exact e0 h4.symm
  · rw [split_at u h3]
    obtain ⟨x, w, hx⟩ := split_one u
    rw [hx]
    show _ = (zeroS, (30 : Int))
    refine endS_bad fun hs h => ?_
    have h4 := hinj h
    have h5 : noSp (ver (refm (c ++ 32 :: u)).toNat) = true := ver_noSp (startB_minor hs)
    rw [h4] at h5
    unfold noSp at h5
    simp at h5

/-! ### Status -/
theorem digit3 (a b c : UInt8) (ha : isDig a = true) (hb : isDig b = true) (hc : isDig c = true) (h : ¬ (dv a * 100 + dv b * 10 + dv c) < 100) : Lib.decDigits (dv a * 100 + dv b * 10 + dv c).toNat = [a, b, c] := by
  have h1 := dv_of ha
  have h2 := dv_of hb
  have h3 := dv_of hc
  have key : ∀ (x : UInt8) (k : Nat), isDig x = true → dv x = k → UInt8.ofNat (48 + k) = x := fun x k _ hk => by
    unfold dv at hk
    have : 48 + k = x.toNat := by omega
    rw [this]; exact UInt8.ofNat_toNat
  rw [digits_hi (by omega), digits_hi (by omega), digits_lo (by omega)]
  rw [key a _ ha (by omega), key b _ hb (by omega), key c _ hc (by omega)]
  rfl
theorem dec3 {t : Bytes} (hl : t.length = 3) (hd : (dec t).2 = 0) (h : 100 ≤ (dec t).1) : Lib.decDigits (dec t).1.toNat = t := by
  match t, hl with
  | [a, b, c], _ =>
    unfold dec decR at hd h ⊢
    have hne : (([a, b, c] : Bytes) == ([] : Bytes)) = false := rfl
    rw [hne] at hd h ⊢
    simp only [cond_false] at hd h ⊢
    cases hall : ([a, b, c] : Bytes).all isDig with
    | false => rw [hall] at hd; exact absurd (show (10 : Int) = 0 from hd) (by omega)
    | true =>
      rw [hall] at hd h
      simp only [cond_true, Bool.false_or] at hd h ⊢
      cases hov : over [a, b, c] 0 with
      | true => rw [hov] at hd; exact absurd (show (2 : Int) = 0 from hd) (by omega)
      | false =>
        rw [hov] at h
        simp only [cond_false] at h ⊢
        simp only [List.all_cons, List.all_nil, Bool.and_true, Bool.and_eq_true] at hall
        have hv : valF [a, b, c] 0 = dv a * 100 + dv b * 10 + dv c := by
          simp only [valF]; omega
        rw [hv] at h ⊢
        exact digit3 a b c hall.1 hall.2.1 hall.2.2 (by omega)
theorem statusOf_end {v c r : Bytes} (hv : noSp v = true) (hc : noSp c = true) :
    statusOf v c r = bif (dec c).1 == 0 then (zeroS, 30) else endS (S_Start.mk [] [] (dec c).1 r (refm v)) (v ++ 32 :: (c ++ 32 :: r)) := by
  have hcode : ∀ m, startB (S_Start.mk [] [] (dec c).1 r m) = true → (dec c).1 = 0 ∨ (100 ≤ (dec c).1 ∧ (dec c).1 ≤ 599) := fun m h => startB_code h
  cases hn : ((dec c).1 == 0) with
  | true => unfold statusOf; rw [hn]; simp
  | false =>
    rw [cond_false]
    have hn0 : (dec c).1 ≠ 0 := by simpa using hn
    have hp : printB (S_Start.mk [] [] (dec c).1 r (refm v)) = ver (refm v).toNat ++ 32 :: (Lib.decDigits (dec c).1.toNat ++ 32 :: r) := by unfold printB; rw [hn]; rfl
    have hback : printB (S_Start.mk [] [] (dec c).1 r (refm v)) = v ++ 32 :: (c ++ 32 :: r) → startB (S_Start.mk [] [] (dec c).1 r (refm v)) = true → ver (refm v).toNat = v ∧ Lib.decDigits (dec c).1.toNat = c := by
      intro h hs
      rw [hp] at h
      have hm := startB_minor hs
      have e1 := cutW_at (Lib.decDigits (dec c).1.toNat ++ 32 :: r) (ver_noSp hm)
      rw [show ver ((S_Start.mk [] [] (dec c).1 r (refm v)).Minor).toNat = ver (refm v).toNat from rfl, h, cutW_at _ hv] at e1
      injection e1 with e1 e2
      injection e2 with e2 _
      have e3 := cutW_at r (digits_noSp (dec c).1.toNat)
      rw [← e2, cutW_at r hc] at e3
      injection e3 with e3 _
      exact ⟨e1.symm, e3.symm⟩
    cases hok : (c.length == 3 && ((dec c).2 == 0 && !((dec c).1 == 0))) with
    | false =>
      unfold statusOf
      rw [hok, cond_false]
      refine (endS_bad fun hs h => ?_).symm
      obtain ⟨_, h2⟩ := hback h hs
      have hc2 := (hcode _ hs).resolve_left hn0
      have h3 := dec_digits (n := (dec c).1.toNat) (by omega)
      rw [h2] at h3
      have h4 := digits_len3 (n := (dec c).1.toNat) (by omega) (by omega)
      rw [h2] at h4
      rw [h4, show (dec c).2 = 0 by rw [h3]] at hok
      rw [hn] at hok
      cases hok
    | true =>
      unfold statusOf
      rw [hok, cond_true]
      rw [Bool.and_eq_true, Bool.and_eq_true] at hok
      have hl : c.length = 3 := by simpa using hok.1
      have hd : (dec c).2 = 0 := by simpa using hok.2.1
      rcases minorB_cases v with ⟨e, ev⟩ | ⟨e, ev⟩ | ⟨e, e0, e1⟩
      · have hm : refm v = 0 := by rw [ev]; unfold refm; rw [ver0, ver1]; rfl
        rw [e, hm]
        refine (endS_okS fun hs => ?_).symm
        have hc2 := (hcode _ hs).resolve_left hn0
        rw [hm] at hp
        rw [hp, dec3 hl hd hc2.1, ev]; rfl
      · have hm : refm v = 1 := by rw [ev]; unfold refm; rw [ver1]; rfl
        rw [e, hm]
        refine (endS_okS fun hs => ?_).symm
        have hc2 := (hcode _ hs).resolve_left hn0
        rw [hm] at hp
        rw [hp, dec3 hl hd hc2.1, ev]; rfl
      · rw [okS_minor2 (s := S_Start.mk [] [] (dec c).1 r (minorB v)) e]
        refine (endS_bad fun hs h => ?_).symm
        obtain ⟨h1, _⟩ := hback h hs
        rcases refm_cases v with ⟨e2, e3⟩ | ⟨e2, e3⟩
        · exact e1 e3
        · rw [e2] at h1; exact e0 h1.symm
def refStatB (l : Bytes) : S_Start × Int :=
  bif (dec (cutW (cutW l).2.1).1).1 == 0 then (zeroS, 30) else
    endS (S_Start.mk [] [] (dec (cutW (cutW l).2.1).1).1 (cutW (cutW l).2.1).2.1 (refm (cutW l).1)) (bif (cutW (cutW l).2.1).2.2 then l else l ++ [32])
theorem refEnd2 {s : S_Start} (h : SSm s) (l : Bytes) (z : Bool) : ((gcall (!z) (intarsiaref06_Right s)).bind fun x5 => (gcall (!(bif z then true else (!x5))) (intarsiaref06_Print s)).bind fun x6 =>
    bif (bif (bif z then true else (!x5)) then true else (!(x6 == l))) then some ((S_Start.mk ([] : Bytes) ([] : Bytes) (0 : Int) ([] : Bytes) (0 : Int)), (30 : Int)) else some (s, (0 : Int))) = some (bif z then (zeroS, 30) else endS s l) := by
  cases z with
  | true => rfl
  | false =>
    rw [gcall_tt (by rfl), refSRight_eq h.small, Option.bind_some]
    unfold endS
    cases hs : startB s with
    | false => rfl
    | true =>
      rw [gcall_tt (by rfl), refPrint_eq h hs, Option.bind_some]
      simp only [cond_false, Bool.not_true]
      cases (printB s == l) <;> rfl
theorem refStatus_split {l : Bytes} (hl : l.length ≤ 100000) : intarsiaref06_Status l = some (refStatB l) := by
  unfold intarsiaref06_Status refStatB
  have h1 := cutW_le l
  have h2 := cutW_le (cutW l).2.1
  have hd := dec_fits (cutW (cutW l).2.1).1
  rw [cut_eq (sm (by omega)), Option.bind_some, cut_eq (sm (by omega)), Option.bind_some, Read_eq (sm (by omega)), Option.bind_some, wrap_i64 (by omega) (by omega)]
  have hsm : ∀ m : Int, SSm (S_Start.mk [] [] (dec (cutW (cutW l).2.1).1).1 (cutW (cutW l).2.1).2.1 m) := fun m => ⟨Nat.zero_le _, Nat.zero_le _, by show (cutW (cutW l).2.1).2.1.length ≤ _; omega⟩
  rw [← ver1]
  unfold refm
  cases hv : ((cutW l).1 == ver 1) <;> cases hb : (cutW (cutW l).2.1).2.2
  · simp only [cond_false, cond_true, Bool.not_false]
    rw [cat_ok (sm (by simp; omega)), Option.bind_some]
    exact refEnd2 (hsm 0) _ _
  · exact refEnd2 (hsm 0) _ _
  · simp only [cond_false, cond_true, Bool.not_false]
    rw [cat_ok (sm (by simp; omega)), Option.bind_some]
    exact refEnd2 (hsm 1) _ _
  · exact refEnd2 (hsm 1) _ _
theorem refStatus_eq {l : Bytes} (hl : l.length ≤ 100000) : intarsiaref06_Status l = some (statusB l) := by
  rw [refStatus_split hl]
  refine congrArg some ?_
  unfold refStatB statusB
  rcases sp_cases l with h1 | ⟨v, t, rfl, h1⟩
  · have : Lib.splitN l [32] 3 = [l] := by unfold Lib.splitN; exact splitK_no h1
    rw [this, cutW_no h1]; rfl
  rw [cutW_at t h1]
  show (bif (dec (cutW t).1).1 == 0 then _ else endS (S_Start.mk [] [] (dec (cutW t).1).1 (cutW t).2.1 (refm v)) (bif (cutW t).2.2 then _ else _)) = _
  rcases sp_cases t with h2 | ⟨c, r, rfl, h2⟩
  · have hw : Lib.splitN (v ++ 32 :: t) [32] 3 = [v, t] := by
      by_cases ht : t = []
      · subst ht
        unfold Lib.splitN
        obtain ⟨k, hk⟩ : ∃ k, min 3 ((v ++ [32]).length + 1) - 1 = k + 1 := ⟨min 3 ((v ++ [32]).length + 1) - 2, by simp; omega⟩
        rw [hk, splitK_at h1, splitK_no rfl]
      · exact splitN_one h1 h2 ht
    rw [hw, cutW_no h2]
    show _ = statusOf v t []
    rw [statusOf_end h1 h2]
    show (bif (dec t).1 == 0 then _ else endS (S_Start.mk [] [] (dec t).1 [] (refm v)) ((v ++ 32 :: t) ++ [32])) = _
    rw [show (v ++ 32 :: t) ++ [32] = v ++ 32 :: (t ++ [32]) by simp]
  · rw [splitN_two h1 h2, cutW_at r h2]
    show _ = statusOf v c r
    rw [statusOf_end h1 h2]; rfl

theorem StartReads_true (s : S_Start) (line : Bytes) (code : Int) : intarsialaw06_StartReads s line code = some true := by
  unfold intarsialaw06_StartReads
  have hs := cutS_sm s
  have hline : (line.take 600).length ≤ 1000 := by simp; omega
  rw [sfew_eq, Option.bind_some, slc_cut line 600 (K := 600) rfl, Option.bind_some]
  generalize cutS s = x at hs
  generalize line.take 600 = y at hline
  rw [Print_eq hs, Option.bind_some, Parse_eq (by omega), Option.bind_some, refParse_eq (by omega), Option.bind_some, Status_eq (by omega), Option.bind_some, refStatus_eq (by omega), Option.bind_some]
  have hne : ∀ n : Int, (n != n) = false := fun n => by simp
  have hbb : ∀ b : Bool, (b == b) = true := fun b => by simp
  have hBB : ∀ b : Bytes, (b == b) = true := fun b => by simp
  simp only [eqS, hne, Bool.not_true, cond_false, Bool.not_false]
  rw [gcall_tt rfl, sRight_eq hs.small, Option.bind_some, gcall_tt rfl, refSRight_eq hs.small, Option.bind_some]
  simp only [hbb, Bool.not_true, cond_false, Bool.not_false]
  rw [gcall_tt rfl, Reason_eq, Option.bind_some, gcall_tt rfl, refReason_eq, Option.bind_some]
  simp only [hBB, Bool.not_true, cond_false, Bool.not_false]
  rw [gcall_tt rfl, salive_eq, Option.bind_some]
  simp only [Bool.not_true, cond_false]
  rw [Option.bind_some]
  cases h : startB x with
  | false => rfl
  | true =>
    simp only [Bool.not_true, cond_false, cond_true]
    rw [gcall_tt (by rfl), refPrint_eq hs h, Option.bind_some]
    simp
end Go.Proofs.YtbgldnleackgeaaDoor
