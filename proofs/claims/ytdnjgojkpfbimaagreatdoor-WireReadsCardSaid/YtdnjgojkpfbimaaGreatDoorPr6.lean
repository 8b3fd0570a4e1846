/-
  Plain laws of WireReads, 6: bytes at once, by both; the law.
-/
import Derived.Test.YtdnjgojkpfbimaaGreatDoorPr0
open _root_.Option renaming bind_some -> aEo
open _root_.Bool renaming not_true -> aEp
open _root_.List renaming take_of_length_le -> aEq
open _root_.Bool renaming not_false -> aEr
open _root_.List renaming append_nil -> aEs
open _root_.Int renaming toNat_natCast -> aEt
namespace Go.Proofs.YtdnjgojkpfbimaaGreatDoor
open Go Go.Pm
set_option linter.unusedSimpArgs false
set_option linter.unusedVariables false
set_option maxRecDepth 100000
theorem nI {s : Bytes} (hs : s.length <= maxLen) (c : UInt8) : intarsiaref07_Find s (c.toNat : Int) = some (idxP (fun b => b == c) s 0) := by
 have h : intarsiaref07_Find s (c.toNat : Int) = intarsiaref05_find s (c.toNat : Int) := rfl
 rw [h, xU hs]
theorem qS (c : UInt8) : ∀ (s : Bytes) (i : Nat), s.contains c = false -> idxP (fun b => b == c) s i = -1
 | [], _, _ => rfl
 | x :: s, i, h => by
  rw [List.contains_cons, Bool.or_eq_false_iff] at h
  unfold idxP
  have hx : (x == c) = false := by
   cases e : (x == c) with
   | false => rfl
   | true => rw [eq_of_beq e] at h; simp at h
  rw [hx, aDd]
  exact qS c s (i + 1) h.2
theorem yX (c : UInt8) (r : Bytes) : ∀ (u : Bytes) (i : Nat), u.contains c = false -> idxP (fun b => b == c) (u ++ c :: r) i = ((i + u.length : Nat) : Int)
 | [], i, _ => by
  show (bif c == c then _ else _) = _
  rw [beq_self_eq_true, aDc]; rfl
 | x :: u, i, h => by
  rw [List.contains_cons, Bool.or_eq_false_iff] at h
  show idxP _ (x :: (u ++ c :: r)) i = _
  unfold idxP
  have hx : (x == c) = false := by
   cases e : (x == c) with
   | false => rfl
   | true => rw [eq_of_beq e] at h; simp at h
  rw [hx, aDd, yX c r u (i + 1) h.2, List.length_cons]
  omega
theorem qT {s : Bytes} (hs : s.length <= maxLen) (c : UInt8) (h : s.contains c = false) : intarsiaref07_Find s (c.toNat : Int) = some (-1) := by
 rw [nI hs, qS c s 0 h]
theorem oT {u r : Bytes} (c : UInt8) (hs : (u ++ c :: r).length <= maxLen) (h : u.contains c = false) : intarsiaref07_Find (u ++ c :: r) (c.toNat : Int) = some ((u.length : Nat) : Int) := by
 rw [nI hs, yX c r u 0 h, Nat.zero_add]
theorem eW {s : Bytes} (c x : UInt8) (hs : s.length + 1 <= maxLen) : strings_TrimSuffix (s ++ [x]) [c] = some (bif x == c then s else s ++ [x]) := by
 have ew : IntKind.i64.wrap (((s ++ [x]).length : Int) - ((([c] : Bytes).length : Nat) : Int)) = (s.length : Int) := by
  rw [aC (by simp <;> omega) (by unfold maxLen at hs; simp <;> omega)]
  simp
 have hge : decide (((s ++ [x]).length : Int) ≥ ((([c] : Bytes).length : Nat) : Int)) = true := decide_eq_true (by simp; omega)
 have h1 : stringslite_HasSuffix (s ++ [x]) [c] = some (x == c) := by
  unfold stringslite_HasSuffix
  have e : gslc (decide (((s ++ [x]).length : Int) ≥ ((([c] : Bytes).length : Nat) : Int))) (s ++ [x]) (IntKind.i64.wrap (((s ++ [x]).length : Int) - ((([c] : Bytes).length : Nat) : Int))) ((s ++ [x]).length : Int) = some [x] := by
   unfold gslc
   rw [ew, aB (fun _ => ⟨by omega, by simp; omega, Int.le_refl _⟩)]
   simp
  rw [e, aEo, hge]
  simp
 have h2 : stringslite_TrimSuffix (s ++ [x]) [c] = some (bif x == c then s else s ++ [x]) := by
  unfold stringslite_TrimSuffix
  rw [h1, aEo]
  cases hx : x == c with
  | false => rfl
  | true =>
   rw [aDc, ew]
   have e : slc (s ++ [x]) 0 (s.length : Int) = some s := by
    unfold slc
    rw [aB (by simp; omega)]
    simp
   rw [e]; rfl
 unfold strings_TrimSuffix
 rw [h2]; rfl
theorem f6 (c : UInt8) : strings_TrimSuffix [] [c] = some [] := rfl
def bare : Bytes -> Bytes
 | s => bif s.getLast? == some 13 then s.dropLast else s
theorem cE : ∀ s : Bytes, s = [] ∨ ∃ t x, s = t ++ [x]
 | [] => .inl rfl
 | x :: s => by
  right
  exact ⟨(x :: s).dropLast, (x :: s).getLast (by simp), (List.dropLast_concat_getLast (by simp)).symm⟩
theorem uD : bare [] = [] := rfl
theorem f7 (t : Bytes) (x : UInt8) : bare (t ++ [x]) = bif x == 13 then t else t ++ [x] := by
 unfold bare
 simp only [List.getLast?_append, List.getLast?_singleton, Option.or_some, Option.getD_none]
 rw [List.dropLast_concat]
 rfl
theorem aBC (x : UInt8) : ((x.toNat : Int) == (13 : Int)) = (x == 13) := by
 rw [Bool.eq_iff_iff, beq_iff_eq, beq_iff_eq]
 exact ⟨fun h => UInt8.toNat_inj.1 (by show x.toNat = 13; omega), fun h => by rw [h]; rfl⟩
theorem yY (x : UInt8) : ((x.toNat : Int) == (10 : Int)) = (x == 10) := by
 rw [Bool.eq_iff_iff, beq_iff_eq, beq_iff_eq]
 exact ⟨fun h => UInt8.toNat_inj.1 (by show x.toNat = 10; omega), fun h => by rw [h]; rfl⟩
theorem jO {s : Bytes} (hs : s.length <= 1000000) : intarsiaref07_Bare s = some (bare s) := by
 unfold intarsiaref07_Bare
 rcases cE s with rfl | ⟨t, x, rfl⟩
 ·rfl
 ·have ht : t.length < maxLen := by simp at hs; unfold maxLen; omega
  rw [gI, dY rfl, iG x t ht, aEo, aDc, aBC, f7]
  cases x == 13 with
  | true => rw [aDc, aDc, kI x t ht]; rfl
  | false => rfl
theorem eX {s : Bytes} (hs : s.length <= 1000000) : vO s = bare s := by
 unfold vO
 rcases cE s with rfl | ⟨t, x, rfl⟩
 ·rfl
 ·have ht : t.length + 1 <= maxLen := by simp at hs; unfold maxLen; omega
  rw [f7, eW 13 x ht]; rfl
theorem oU (s : Bytes) : (bare s).length <= s.length := by
 rcases cE s with rfl | ⟨t, x, rfl⟩
 ·exact Nat.le_refl _
 ·rw [f7]
  cases x == 13 <;> simp
theorem qU {s : Bytes} (hs : s.length <= 1000000) : intarsiaref07_End s = some (endB s) := by
 unfold intarsiaref07_End endB
 have key := eD (body := intarsiaref07_End_b1 s) (fun a => (s.length : Int).toNat - a.toNat) (fun a => 0 <= a /\ a <= (s.length : Int)) (fun a => some (aJ s.length (c6 [] a.toNat (s.drop a.toNat)))) (fun a ha => ?_) 0 ⟨by omega, by omega⟩
 ·rw [key]; rfl
 obtain ⟨a, rfl⟩ : ∃ n : Nat, a = (n : Int) := ⟨a.toNat, by omega⟩
 have ha' : a <= s.length := by omega
 simp only [aEt]
 unfold intarsiaref07_End_b1
 have hsl : slc s (a : Int) (s.length : Int) = some (s.drop a) := by
  unfold slc
  rw [aB (by omega)]
  show some ((s.drop a).take (s.length - a)) = _
  rw [aEq (by simp)]
 have hml : (s.drop a).length <= maxLen := by unfold maxLen; simp; omega
 rw [hsl, aEo, show (10 : Int) = (((10 : UInt8).toNat : Nat) : Int) from rfl]
 rcases dR 10 (s.drop a) with ⟨_, hno⟩ | ⟨u, r, _, hsp, hu⟩
 ·right
  rw [qT hml 10 hno, aEo, show decide ((-1 : Int) < 0) = true from rfl, aDc]
  have := dS (s.drop a) [] a [] hno
  rw [aEs] at this
  rw [this, d6, tV]
  cases decide ((s.length : Int) > 4000) <;> exact ⟨_, rfl, rfl⟩
 ·have hul : a + u.length + 1 + r.length = s.length := by
   have := congrArg List.length hsp
   simp at this
   omega
  have hdr : s.drop (a + u.length + 1) = r := by
   rw [Nat.add_assoc, <- List.drop_drop, hsp]
   simp
  have hus : slc s (a : Int) (((a + u.length : Nat)) : Int) = some u := by
   unfold slc
   rw [aB (by omega)]
   show some ((s.drop a).take (a + u.length - a)) = _
   rw [hsp, Nat.add_sub_cancel_left]
   simp
  rw [hsp] at hml ⊢
  rw [oT 10 hml hu, aEo, decide_eq_false (show ¬ ((u.length : Nat) : Int) < 0 by omega), aDd]
  have w1 : IntKind.i64.wrap ((a : Int) + ((u.length : Nat) : Int)) = ((a + u.length : Nat) : Int) := by rw [aC (by omega) (by omega)]; omega
  have w2 : IntKind.i64.wrap (((a + u.length : Nat) : Int) + 1) = ((a + u.length + 1 : Nat) : Int) := by rw [aC (by omega) (by omega)]; omega
  rw [w1, w2, hus, aEo, jO (by omega), aEo, dS u [] a _ hu, List.nil_append, c7, show ((10 : UInt8) == 10) = true from rfl, aDc, qI, eX (by omega)]
  cases h4 : decide (((a + u.length + 1 : Nat) : Int) > 4000) with
  | true => right; exact ⟨_, rfl, rfl⟩
  | false =>
   simp only [aDd]
   cases hb : bare u == [] with
   | true => right; exact ⟨_, rfl, rfl⟩
   | false =>
    left
    refine ⟨((a + u.length + 1 : Nat) : Int), rfl, by omega, ?_, ?_⟩
    ·simp only [aEt]; omega
    ·simp only [aEt, hdr]; rfl
theorem yZ {s : Bytes} (h : bare s = []) : s = [] ∨ s = [13] := by
 rcases cE s with rfl | ⟨t, x, rfl⟩
 ·exact .inl rfl
 ·rw [f7] at h
  cases hx : x == 13 with
  | true => rw [hx, aDc] at h; subst h; rw [eq_of_beq hx]; exact .inr rfl
  | false => rw [hx, aDd] at h; simp at h
theorem jP (n : Nat) {e : Int} : ∀ (s acc : Bytes) (a : Nat), acc.length + s.length <= 1000000 -> aJ n (c6 acc a s) = (e, 0) ->
  ∃ u v t, acc ++ s = u ++ v ++ t /\ ((a + (u ++ v).length : Nat) : Int) = e + acc.length /\ (v = [10] ∨ v = [13, 10]) /\ (u = [] ∨ u.getLast? = some 10)
 | [], acc, a, _, h => by
  rw [d6, tV] at h
  cases hd : decide ((n : Int) > 4000) <;> rw [hd] at h <;> cases h
 | x :: s, acc, a, hl, h => by
  simp only [List.length_cons] at hl
  rw [c7] at h
  cases hx : x == 10 with
  | true =>
   rw [hx, aDc, qI, eX (by omega)] at h
   have hx := eq_of_beq hx
   subst hx
   cases h4 : decide (((a + 1 : Nat) : Int) > 4000) with
   | true => rw [h4] at h; cases h
   | false =>
    rw [h4, aDd] at h
    cases hb : bare acc == [] with
    | true =>
     rw [hb, aDc] at h
     injection h with h _
     have hb := eq_of_beq hb
     refine ⟨[], acc ++ [10], s, by simp, ?_, ?_, .inl rfl⟩
     ·simp only [List.nil_append, List.length_append, List.length_singleton]; omega
     ·rcases yZ hb with rfl | rfl
      ·exact .inl rfl
      ·exact .inr rfl
    | false =>
     rw [hb, aDd] at h
     obtain ⟨u, v, t, h1, h2, h3, h4⟩ := jP n s [] (a + 1) (by simp; omega) h
     rw [List.nil_append] at h1
     refine ⟨acc ++ 10 :: u, v, t, by rw [h1]; simp, ?_, h3, .inr ?_⟩
     ·simp only [List.length_append, List.length_cons, List.length_nil] at h2 ⊢; omega
     ·rcases h4 with rfl | h4
      ·simp
      ·rw [List.getLast?_append, List.getLast?_cons, h4]; rfl
  | false =>
   rw [hx, aDd] at h
   obtain ⟨u, v, t, h1, h2, h3, h4⟩ := jP n s (acc ++ [x]) (a + 1) (by simp; omega) h
   refine ⟨u, v, t, by rw [<- h1]; simp, ?_, h3, h4⟩
   simp only [List.length_append, List.length_singleton] at h2 ⊢
   omega
theorem y5 {s : Bytes} (hs : s.length <= 1000000) {e : Int} (h : endB s = (e, 0)) : ∃ u v t, s = u ++ v ++ t /\ e = (((u ++ v).length : Nat) : Int) /\ (v = [10] ∨ v = [13, 10]) /\ (u = [] ∨ u.getLast? = some 10) := by
 obtain ⟨u, v, t, h1, h2, h3, h4⟩ := jP s.length s [] 0 (by simpa using hs) h
 exact ⟨u, v, t, h1, by simp only [List.length_nil] at h2; omega, h3, h4⟩
theorem mG {α : Type} (u r : List α) : slc (u ++ r) 0 ((u.length : Nat) : Int) = some u := by
 unfold slc
 rw [aB (by simp; omega)]
 simp
theorem oV {α : Type} (u r : List α) : slc (u ++ r) ((u.length : Nat) : Int) ((u ++ r).length : Int) = some r := by
 unfold slc
 rw [aB (by simp; omega)]
 show some (((u ++ r).drop u.length).take ((u ++ r).length - u.length)) = _
 rw [List.drop_left, aEq (by simp)]
theorem mH {α : Type} (u r : List α) (c : α) : slc (u ++ c :: r) ((u.length + 1 : Nat) : Int) ((u ++ c :: r).length : Int) = some r := by
 have := oV (u ++ [c]) r
 simpa using this
theorem jQ (line : Bytes) (a : Int) (l : List (Bytes × Int)) (out : List S_Field) : aH ((line, a) :: l) out = (strings_Cut line [58]).bind fun c =>
  (text_Trim c.2.1).bind fun v => (table_Add out c.1 v).bind fun a =>
  bif (bif (!c.2.2) then true else (a.2 == (1 : Int))) then some ([], 31) else bif (a.2 != (0 : Int)) then some ([], a.2) else aH l a.1 := by rw [aH]
theorem kT : ∀ (s acc : Bytes) (a b : Nat) (out : List S_Field), aH (c6 acc a s) out = aH (c6 acc b s) out
 | [], acc, a, b, out => by rw [d6, d6]
 | x :: s, acc, a, b, out => by
  rw [c7, c7]
  cases x == 10 with
  | true =>
   rw [aDc, aDc, jQ, jQ]
   have h : (fun o => aH (c6 [] (a + 1) s) o) = fun o => aH (c6 [] (b + 1) s) o := funext fun o => kT s [] (a + 1) (b + 1) o
   have h' : ∀ o, aH (c6 [] (a + 1) s) o = aH (c6 [] (b + 1) s) o := fun o => kT s [] (a + 1) (b + 1) o
   simp only [h']
  | false => rw [aDd, aDd]; exact kT s (acc ++ [x]) (a + 1) (b + 1) out
theorem y6 {s : Bytes} (h : s = [] ∨ s.getLast? = some 10) : s = [] ∨ ∃ u r, s = u ++ 10 :: r /\ u.contains 10 = false /\ (r = [] ∨ r.getLast? = some 10) := by
 rcases h with h | h
 ·exact .inl h
 ·right
  rcases dR 10 s with ⟨_, hno⟩ | ⟨u, r, _, hsp, hu⟩
  ·exfalso
   have hm := List.mem_of_getLast? h
   have := List.contains_iff_mem.2 hm
   rw [hno] at this
   cases this
  ·refine ⟨u, r, hsp, hu, ?_⟩
   subst hsp
   cases r with
   | nil => exact .inl rfl
   | cons y r =>
    right
    rw [List.getLast?_append, List.getLast?_cons_cons] at h
    cases hy : (y :: r).getLast? with
    | none => simp at hy
    | some z => rw [hy] at h; simpa using h
theorem y7 : FRow [] := ⟨by simp, by simp⟩
theorem iO {s : Bytes} {out : List S_Field} (hs : s.length <= 100000) (hl : s = [] ∨ s.getLast? = some 10) (ho : FRow out) (hr : dZ out = true) (h4 : out.length <= 40) :
  loopO intarsiaref07_Parse_b1 (s, out) = aH (c6 [] 0 s) out := by
 refine eD (body := intarsiaref07_Parse_b1) (fun x => x.1.length) (fun x => x.1.length <= 100000 /\ (x.1 = [] ∨ x.1.getLast? = some 10) /\ FRow x.2 /\ dZ x.2 = true /\ x.2.length <= 40)
  (fun x => aH (c6 [] 0 x.1) x.2) (fun x hx => ?_) (s, out) ⟨hs, hl, ho, hr, h4⟩
 obtain ⟨s, out⟩ := x
 obtain ⟨hs, hl, ho, hr, h4⟩ := hx
 dsimp only at hs hl ho hr h4 ⊢
 rcases y6 hl with rfl | ⟨u, r, rfl, hu, hrl⟩
 ·right
  exact ⟨_, rfl, by rw [d6]; rfl⟩
 ·unfold intarsiaref07_Parse_b1
  dsimp only
  have hne : (!(u ++ 10 :: r == ([] : Bytes))) = true := by
   cases e : (u ++ 10 :: r == ([] : Bytes)) with
   | false => rfl
   | true => have := eq_of_beq e; simp at this
  have hlen : u.length + 1 + r.length <= 100000 := by simp at hs; omega
  have e1 : slc (u ++ 10 :: r) 0 ((u.length : Nat) : Int) = some u := mG _ _
  have w1 : IntKind.i64.wrap (((u.length : Nat) : Int) + 1) = ((u.length + 1 : Nat) : Int) := by rw [aC (by omega) (by omega)]; omega
  have e2 : slc (u ++ 10 :: r) ((u.length + 1 : Nat) : Int) ((u ++ 10 :: r).length : Int) = some r := mH _ _ _
  have hbl := oU u
  have hb : (bare u).length <= 100000 := by omega
  have hbm : (bare u).length <= maxLen := by unfold maxLen; omega
  rw [hne, aDc, show (10 : Int) = (((10 : UInt8).toNat : Nat) : Int) from rfl, oT 10 (by unfold maxLen; simp; omega) hu, aEo, e1, aEo, jO (by omega), aEo, w1, e2, aEo,
   dS u [] 0 _ hu, List.nil_append, c7, show ((10 : UInt8) == 10) = true from rfl, aDc, eX (by omega), jQ, g5 58 hbm, aEo, show (58 : Int) = (((58 : UInt8).toNat : Nat) : Int) from rfl]
  rcases dR 58 (bare u) with ⟨hcut, hno⟩ | ⟨n, v, hcut, hsp, hn⟩
  ·right
   rw [qT hbm 58 hno, aEo, show decide ((-1 : Int) < 0) = true from rfl, aDc, hcut]
   refine ⟨_, rfl, ?_⟩
   dsimp only
   rw [gZ (s := []) (by simp), aEo, yA (n := bare u) (v := trim []) ho ⟨hbm, by simp [trim, fY, fL]⟩]
   rfl
  ·rw [hsp] at hb hbm
   have hnv : n.length + 1 + v.length <= 100000 := by simp at hb; omega
   have e3 : slc (n ++ 58 :: v) 0 ((n.length : Nat) : Int) = some n := mG _ _
   have w2 : IntKind.i64.wrap (((n.length : Nat) : Int) + 1) = ((n.length + 1 : Nat) : Int) := by rw [aC (by omega) (by omega)]; omega
   have e4 : slc (n ++ 58 :: v) ((n.length + 1 : Nat) : Int) ((n ++ 58 :: v).length : Int) = some v := mH _ _ _
   have htl := lV v
   have hvm : v.length <= maxLen := by unfold maxLen; omega
   have hf : iH (S_Field.mk n (trim v)) := ⟨by show n.length <= maxLen; unfold maxLen; omega, by show (trim v).length <= maxLen; unfold maxLen; omega⟩
   rw [hcut, hsp, oT 58 hbm hn, aEo, decide_eq_false (show ¬ ((n.length : Nat) : Int) < 0 by omega), aDd, e3, aEo, w2, e4, aEo, gJ hvm, aEo, p5 hf, aEo]
   dsimp only
   rw [gZ hvm, aEo, yA ho hf, aEo]
   have ha : addB out (S_Field.mk n (trim v)) = bif !mayB (S_Field.mk n (trim v)) then ([], 1) else bif out.length == 40 then ([], 4) else (out ++ [S_Field.mk n (trim v)], 0) := by
    unfold addB
    rw [hr]; rfl
   rw [ha]
   cases hm : mayB (S_Field.mk n (trim v)) with
   | false => right; exact ⟨_, rfl, rfl⟩
   | true =>
    have h40 : (((out.length : Nat) : Int) == 40) = (out.length == 40) := by
     rw [Bool.eq_iff_iff, beq_iff_eq, beq_iff_eq]; omega
    rw [h40]
    cases hq : out.length == 40 with
    | true => right; exact ⟨_, rfl, rfl⟩
    | false =>
     left
     have hne4 : out.length ≠ 40 := by simpa using hq
     have happ : app 32 out ([S_Field.mk n (trim v)] : List S_Field) = some (out ++ [S_Field.mk n (trim v)]) := m7 (by simp; omega) (by omega)
     simp only [aEp, aDd]
     rw [happ, aEo]
     refine ⟨(r, out ++ [S_Field.mk n (trim v)]), rfl, ⟨by show r.length <= 100000; omega, hrl, ?_, ?_, by simp; omega⟩, ?_, ?_⟩
     ·refine ⟨by simp; omega, fun f hf => ?_⟩
      rcases List.mem_append.1 hf with hf | hf
      ·exact ho.each f hf
      ·rw [List.mem_singleton] at hf; subst hf
       exact ⟨by show n.length <= 100000; omega, by show (trim v).length <= 100000; omega⟩
     ·unfold dZ at hr ⊢
      rw [Bool.and_eq_true] at hr
      rw [List.all_append, hr.2, Bool.true_and, Bool.and_eq_true]
      exact ⟨decide_eq_true (by simp; omega), by simp [hm]⟩
     ·show r.length < (u ++ 10 :: r).length
      simp; omega
     ·show aH (c6 [] (0 + u.length + 1) r) _ = aH (c6 [] 0 r) _
      exact kT r [] _ _ _
theorem j7 {s : Bytes} (hs : s.length <= 100000) : intarsiaref07_Parse s = head_Parse s := by
 unfold intarsiaref07_Parse head_Parse
 cases hd : decide ((s.length : Int) > 4000) with
 | true => rfl
 | false =>
  rw [aDd, aDd]
  rcases cE s with rfl | ⟨t, x, rfl⟩
  ·exact iO (s := []) (out := []) (by simp) (.inl rfl) y7 rfl (by simp)
  ·have ht : t.length < maxLen := by simp at hs; unfold maxLen; omega
   have hne : (!(t ++ [x] == ([] : Bytes))) = true := by
    cases e : (t ++ [x] == ([] : Bytes)) with
    | false => rfl
    | true => have := eq_of_beq e; simp at this
   rw [hne, dY rfl, iG x t ht, aEo, aEo, aDc]
   cases hx : ((x.toNat : Int) != 10) with
   | true => rfl
   | false =>
    have hx' : x = 10 := by
     have : ((x.toNat : Int) == 10) = true := by simpa using hx
     rw [yY] at this
     exact eq_of_beq this
    subst hx'
    rw [aDd, aDd, iO hs (.inr (by simp)) y7 rfl (by simp)]
    have e := tU (s := t ++ [10]) (by omega) ((t ++ [10]).length + 1) 0 (Nat.zero_le _) (by omega)
    have e' : bU (t ++ [10]) = some (c6 [] 0 (t ++ [10])) := by unfold bU; exact e
    rw [e', aEo]
def dP (b : UInt8) : Bool := (b ≥ 48 && b <= 57) || ((b ≥ 65 && b <= 70) || (b ≥ 97 && b <= 102))
def hv (b : UInt8) : Int := bif b ≥ 97 then (b.toNat : Int) - 87 else bif b ≥ 65 then (b.toNat : Int) - 55 else (b.toNat : Int) - 48
theorem hv_of {b : UInt8} (h : dP b = true) : 0 <= hv b /\ hv b <= 15 := by
 have := cO (p := fun b => !dP b || (decide (0 <= hv b) && decide (hv b <= 15))) (by kernel_rfl) b
 rw [h] at this
 simpa using this
def aAB : Bytes -> Int -> Bool
 | [], _ => false
 | x :: l, n => bif decide (n * 16 + hv x > 1099511627776) then true else aAB l (n * 16 + hv x)
def valH : Bytes -> Int -> Int
 | [], n => n
 | x :: l, n => valH l (n * 16 + hv x)
def hexR (t : Bytes) (n : Int) (long : Bool) : Int × Int := bif t.all dP then (bif long || aAB t n then (0, 2) else (valH t n, 0)) else (0, 10)
def hex (s : Bytes) : Int × Int := bif s == ([] : Bytes) then (0, 10) else hexR s 0 false
def oW (c : Int × Bool) (x : UInt8) : (Int × Bool) ⊕ (Int × Int) := bif dP x then (bif decide (c.1 * 16 + hv x > 1099511627776) then .inl (0, true) else .inl (c.1 * 16 + hv x, c.2)) else .inr (0, 10)
def y8 (c : Int × Bool) : Int × Int := bif c.2 then (0, 2) else (c.1, 0)
def uE (c : Int) (x : UInt8) : Int ⊕ (Int ⊕ (Int × Int)) := bif decide (c * 16 + hv x > 1099511627776) then .inr (.inr (0, 2)) else .inl (c * 16 + hv x)
def rhFin (c : Int) : Int ⊕ (Int × Int) := .inr (c, 0)
theorem valR (b : UInt8) : ∃ v, intarsiaref02_value (b.toNat : Int) = some v /\ decide (v ≥ (16 : Int)) = (!dP b) /\ (dP b = true -> v = hv b) := by
 have := cO (p := fun b => match intarsiaref02_value (b.toNat : Int) with | some v => (decide (v ≥ (16 : Int)) == !dP b) && (!dP b || v == hv b) | none => false) (by kernel_rfl) b
 cases h : intarsiaref02_value (b.toNat : Int) with
 | none => rw [h] at this; cases this
 | some v =>
  rw [h] at this
  simp only [Bool.and_eq_true, beq_iff_eq, Bool.or_eq_true, Bool.not_eq_true'] at this
  exact ⟨v, rfl, this.1, fun hd => this.2.resolve_left (by rw [hd]; simp)⟩
theorem valP (b : UInt8) : ∃ v, number_ReadHex_1 (b.toNat : Int) = some v /\ decide (v ≥ (16 : Int)) = (!dP b) /\ (dP b = true -> v = hv b) := by
 have := cO (p := fun b => match number_ReadHex_1 (b.toNat : Int) with | some v => (decide (v ≥ (16 : Int)) == !dP b) && (!dP b || v == hv b) | none => false) (by kernel_rfl) b
 cases h : number_ReadHex_1 (b.toNat : Int) with
 | none => simp only [h] at this; cases this
 | some v =>
  simp only [h] at this
  simp only [Bool.and_eq_true, beq_iff_eq, Bool.or_eq_true, Bool.not_eq_true'] at this
  exact ⟨v, rfl, this.1, fun hd => this.2.resolve_left (by rw [hd]; simp)⟩
theorem oX {s : Bytes} (hs : s.length <= maxLen) : intarsiaref02_Read s 16 = some (hex s) := by
 unfold intarsiaref02_Read hex
 cases h0 : (s == ([] : Bytes)) with
 | true => rfl
 | false =>
  simp only [aDd]
  -- the second loop
  have h2 : s.all dP = true -> loopO (intarsiaref02_Read_b2 s 16) ((0 : Int), (0 : Int)) = some (.inr (hexR s 0 false)) := by
   intro hall
   have hf : ∀ (l : Bytes) (n : Int), l.all dP = true -> aY uE rhFin l n = .inr (hexR l n false) := by
    intro l
    induction l with
    | nil => intro n _; rfl
    | cons x l ih =>
     intro n ha
     rw [List.all_cons, Bool.and_eq_true] at ha
     unfold hexR
     rw [List.all_cons, ha.1, ha.2, bY, show uE n x = (bif decide (n * 16 + hv x > 1099511627776) then .inr (.inr (0, 2)) else .inl (n * 16 + hv x)) from rfl]
     unfold aAB valH
     cases hm : decide (n * 16 + hv x > 1099511627776) with
     | true => rfl
     | false =>
      simp only [aDd]
      rw [ih _ ha.2]; unfold hexR; rw [ha.2]; rfl
   have key := aW (body := intarsiaref02_Read_b2 s 16) s (fun i (c : Int) => (c, (i : Int))) uE rhFin (fun i c => 0 <= c /\ c <= 1099511627776) (fun i c x hx hi => ?_) (fun c hi => ?_) 0 ⟨by simp, by simp⟩
   ·rw [show ((0 : Int), (0 : Int)) = ((0 : Int), ((0 : Nat) : Int)) from rfl, key, hf _ _ hall]
   ·have hlt := aP hx
    have hd : dP x = true := List.all_eq_true.1 hall x (List.mem_of_getElem? hx)
    have hhv := hv_of hd
    obtain ⟨v, v1, v2, v3⟩ := valR x
    unfold intarsiaref02_Read_b2
    dsimp only
    rw [aM hlt, aDc, aV hx, aEo, v1, aEo, v3 hd, Int.mul_comm 16 c, cN (show 0 <= c * 16 by omega) (by omega), cN (show 0 <= c * 16 + hv x by omega) (by omega), aL hlt hs]
    unfold uE
    cases hm : decide (c * 16 + hv x > 1099511627776) with
    | true => exact .inr ⟨_, rfl, rfl⟩
    | false => exact .inl ⟨_, rfl, rfl, by omega, by simpa using hm⟩
   ·unfold intarsiaref02_Read_b2
    dsimp only
    rw [aO]; rfl
  have hf : ∀ (l : Bytes), aY (β := Unit) (ρ := Int × Int) (fun _ x => bif dP x then .inl () else .inr (0, 10)) (fun _ => hexR s 0 false) l () = bif l.all dP then hexR s 0 false else (0, 10) := by
   intro l
   induction l with
   | nil => rfl
   | cons x l ih =>
    unfold aY
    rw [List.all_cons]
    cases dP x with
    | true => exact ih
    | false => rfl
  have hfin : (bif s.all dP then hexR s 0 false else ((0 : Int), (10 : Int))) = hexR s 0 false := by
   unfold hexR
   cases s.all dP <;> rfl
  rw [<- hfin, <- hf]
  have h3 : ∀ (m i : Nat), m + i = s.length -> loopO (intarsiaref02_Read_b1 s 16) (i : Int) = (bif (s.take i).all dP then some (aY (β := Unit) (ρ := Int × Int) (fun _ x => bif dP x then .inl () else .inr (0, 10)) (fun _ => hexR s 0 false) (s.drop i) ()) else loopO (intarsiaref02_Read_b1 s 16) (i : Int)) := by
   intro m
   induction m with
   | zero =>
    intro i hm
    have : i = s.length := by omega
    subst this
    rw [List.take_length, List.drop_length]
    cases hall : s.all dP with
    | false => rfl
    | true =>
     rw [aT]
     have hb : intarsiaref02_Read_b1 s 16 (s.length : Int) = some (.inr (hexR s 0 false)) := by
      unfold intarsiaref02_Read_b1
      rw [aO, aDd, h2 hall]
     rw [hb]; rfl
   | succ m ih =>
    intro i hm
    have hlt : i < s.length := by omega
    have hx : s[i]? = some s[i] := List.getElem?_eq_getElem hlt
    cases hall : (s.take i).all dP with
    | false => rfl
    | true =>
     rw [aT, List.drop_eq_getElem_cons hlt, aDc]
     obtain ⟨v, v1, v2, v3⟩ := valR s[i]
     unfold aY
     have hb : intarsiaref02_Read_b1 s 16 (i : Int) = some (bif dP s[i] then .inl ((i + 1 : Nat) : Int) else .inr (0, 10)) := by
      unfold intarsiaref02_Read_b1
      rw [aM hlt, aDc, aV hx, aEo, v1, aEo, v2, aL hlt hs]
      cases dP s[i] <;> rfl
     rw [hb]
     cases hd : dP s[i] with
     | false => rfl
     | true =>
      have h4 := ih (i + 1) (by omega)
      have h5 : (s.take (i + 1)).all dP = true := by rw [List.take_succ_eq_append_getElem hlt, List.all_append, hall]; simp [hd]
      rw [h5, aDc] at h4
      exact h4
  have := h3 s.length 0 (by omega)
  rw [List.take_zero, List.drop_zero] at this
  exact this
theorem vR {s : Bytes} (hs : s.length <= maxLen) : number_ReadHex s = some (hex s) := by
 unfold number_ReadHex number_read_uint64 hex
 cases h0 : (s == ([] : Bytes)) with
 | true => rfl
 | false =>
  simp only [aDd]
  have hf : ∀ (l : Bytes) (n : Int) (long : Bool), aY oW y8 l (n, long) = hexR l n long := by
   intro l
   induction l with
   | nil => intro n long; unfold hexR; cases long <;> rfl
   | cons x l ih =>
    intro n long
    unfold hexR
    rw [List.all_cons, bY, show oW (n, long) x = (bif dP x then (bif decide (n * 16 + hv x > 1099511627776) then .inl (0, true) else .inl (n * 16 + hv x, long)) else .inr (0, 10)) from rfl]
    cases hx : dP x with
    | false => rfl
    | true =>
     simp only [aDc, Bool.true_and]
     unfold aAB valH
     cases hm : decide (n * 16 + hv x > 1099511627776) with
     | true =>
      simp only [aDc]
      rw [ih]; unfold hexR
      simp
     | false =>
      simp only [aDd]
      rw [ih]; rfl
  have key := aW (body := number_read_uint64_b1 s 16 (fun x0 => number_ReadHex_1 x0)) s (fun i (c : Int × Bool) => (c.1, c.2, (i : Int))) oW y8 (fun i c => 0 <= c.1 /\ c.1 <= 1099511627776) (fun i c x hx hi => ?_) (fun c hi => ?_) (0, false) ⟨by simp, by simp⟩
  ·rw [show ((IntKind.u64.wrap (0 : Int)), false, (0 : Int)) = ((0 : Int), false, ((0 : Nat) : Int)) from rfl, key, hf]; rfl
  ·have hlt := aP hx
   obtain ⟨v, v1, v2, v3⟩ := valP x
   unfold number_read_uint64_b1
   dsimp only
   rw [aM hlt, aDc, aV hx, aEo, v1, aEo, v2]
   unfold oW
   cases hd : dP x with
   | false => exact .inr ⟨_, rfl, rfl⟩
   | true =>
    have hhv := hv_of hd
    rw [v3 hd, cN (show 0 <= c.1 * 16 by omega) (by omega), cN (show 0 <= c.1 * 16 + hv x by omega) (by omega), aL hlt hs]
    simp only [aEp, aDd, aDc]
    cases hm : decide (c.1 * 16 + hv x > 1099511627776) with
    | true => exact .inl ⟨(0, true), rfl, rfl, by simp, by simp⟩
    | false => exact .inl ⟨_, rfl, rfl, by show 0 <= c.1 * 16 + hv x; omega, by show c.1 * 16 + hv x <= _; simpa using hm⟩
  ·unfold number_read_uint64_b1 y8
   dsimp only
   rw [aO]
   cases c.2 <;> rfl
theorem refHex {s : Bytes} (hs : s.length <= maxLen) : intarsiaref02_Read s 16 = number_ReadHex s := (oX hs).trans (vR hs).symm
theorem aAC (c : UInt8) : (cutC c []).1 = [] := rfl
theorem y9 (c x : UInt8) (s : Bytes) : (cutC c (x :: s)).1 = bif x == c then [] else x :: (cutC c s).1 := by
 rw [cutC]
 cases x == c <;> rfl
theorem nat59 (x : UInt8) : ((x.toNat : Int) == (59 : Int)) = (x == 59) := by
 rw [Bool.eq_iff_iff, beq_iff_eq, beq_iff_eq]
 exact ⟨fun h => UInt8.toNat_inj.1 (by show x.toNat = 59; omega), fun h => by rw [h]; rfl⟩
theorem qV {s : Bytes} (hs : s.length <= 1000000) : loopO intarsiaref08_line_b1 (s, (0 : Int)) = some (cutC 59 s).1 := by
 have key := eD (body := intarsiaref08_line_b1) (fun x => x.1.length + 1 - x.2.toNat) (fun x => x.1.length <= 1000000 /\ ∃ i : Nat, x.2 = (i : Int) /\ i <= x.1.length + 1)
  (fun x => some (x.1.take x.2.toNat ++ (cutC 59 (x.1.drop x.2.toNat)).1)) (fun x hx => ?_) (s, (0 : Int)) ⟨hs, 0, rfl, by omega⟩
 ·rw [key]; rfl
 obtain ⟨t, j⟩ := x
 obtain ⟨ht, i, rfl, hi⟩ := hx
 dsimp only at ht hi ⊢
 rw [aEt]
 unfold intarsiaref08_line_b1
 dsimp only
 by_cases hlt : i < t.length
 ·left
  have hx : t[i]? = some t[i] := List.getElem?_eq_getElem hlt
  have hd : t.drop i = t[i] :: t.drop (i + 1) := List.drop_eq_getElem_cons hlt
  rw [aM hlt, aDc, aV hx, aEo, nat59, hd, y9, aL hlt (by unfold maxLen; omega)]
  cases hc : t[i] == 59 with
  | true =>
   have e1 : slc t 0 ((i : Nat) : Int) = some (t.take i) := by
    unfold slc
    rw [aB (by omega)]
    simp
   rw [aDc, aDc, e1, aEo]
   refine ⟨(t.take i, ((i + 1 : Nat) : Int)), rfl, ⟨by simp; omega, i + 1, rfl, by simp; omega⟩, ?_, ?_⟩
   ·simp; omega
   ·show some (t.take i ++ []) = some ((t.take i).take (i + 1) ++ (cutC 59 ((t.take i).drop (i + 1))).1)
    rw [List.take_take, Nat.min_eq_right (by omega), List.drop_of_length_le (by simp; omega)]
    rfl
  | false =>
   rw [aDd, aDd]
   refine ⟨(t, ((i + 1 : Nat) : Int)), rfl, ⟨ht, i + 1, rfl, by show i + 1 <= t.length + 1; omega⟩, ?_, ?_⟩
   ·show t.length + 1 - (i + 1) < t.length + 1 - i; omega
   ·show some (t.take i ++ t[i] :: _) = some (t.take (i + 1) ++ _)
    rw [List.take_succ_eq_append_getElem hlt, List.append_assoc]
    rfl
 ·right
  have : decide ((i : Int) < (t.length : Int)) = false := decide_eq_false (by omega)
  rw [this, aDd, aEq (by omega), List.drop_of_length_le (by omega)]
  exact ⟨_, rfl, by rw [aAC, aEs]⟩
theorem nJ {s : Bytes} (hs : s.length <= 1000000) : loopO intarsiaref08_line_b2 (s, (0 : Int)) = some (cutC 59 s).1 := qV hs
noncomputable def zA (c : S_Chunked) (x : Bytes) : Option (S_Chunked × Int) :=
 bif (bif (c.Stage == (2 : Int)) then (!(x == ([] : Bytes))) else false) then some ((S_Chunked.mk c.Stage ([] : Bytes) c.Left c.Size), (33 : Int)) else
 bif (c.Stage == (2 : Int)) then some ((S_Chunked.mk (0 : Int) ([] : Bytes) c.Left c.Size), (0 : Int)) else
 bif (c.Stage == (3 : Int)) then (bif (x == ([] : Bytes)) then some ((S_Chunked.mk (4 : Int) ([] : Bytes) c.Left c.Size), (0 : Int)) else some ((S_Chunked.mk c.Stage ([] : Bytes) c.Left c.Size), (0 : Int))) else
 (number_ReadHex (trim (cutC 59 x).1)).bind fun x9 =>
 bif (x9.2 == (10 : Int)) then some ((S_Chunked.mk c.Stage ([] : Bytes) c.Left c.Size), (33 : Int)) else
 bif (bif (x9.2 != (0 : Int)) then true else (decide (x9.1 > (IntKind.u64.wrap (IntKind.i64.wrap ((20000 : Int) - c.Size)))))) then some ((S_Chunked.mk c.Stage ([] : Bytes) c.Left c.Size), (2 : Int)) else
 bif (x9.1 == (0 : Int)) then some ((S_Chunked.mk (3 : Int) ([] : Bytes) (IntKind.i64.wrap x9.1) c.Size), (0 : Int)) else some ((S_Chunked.mk (1 : Int) ([] : Bytes) (IntKind.i64.wrap x9.1) c.Size), (0 : Int))
theorem vS {c : S_Chunked} (hl : c.Line.length <= 1000) : intarsiaref08_line c = zA c (bare c.Line) := by
 have fin : ∀ x : Bytes, x.length <= 1000 -> (intarsiaref03_Trim (cutC 59 x).1).bind (fun x8 => (intarsiaref02_Read x8 (16 : Int)).bind fun x9 =>
   bif (x9.2 == (10 : Int)) then some ((S_Chunked.mk c.Stage ([] : Bytes) c.Left c.Size), (33 : Int)) else
   bif (bif (x9.2 != (0 : Int)) then true else (decide (x9.1 > (IntKind.u64.wrap (IntKind.i64.wrap ((20000 : Int) - c.Size)))))) then some ((S_Chunked.mk c.Stage ([] : Bytes) c.Left c.Size), (2 : Int)) else
   bif (x9.1 == (0 : Int)) then some ((S_Chunked.mk (3 : Int) ([] : Bytes) (IntKind.i64.wrap x9.1) c.Size), (0 : Int)) else some ((S_Chunked.mk (1 : Int) ([] : Bytes) (IntKind.i64.wrap x9.1) c.Size), (0 : Int))) = (number_ReadHex (trim (cutC 59 x).1)).bind fun x9 =>
   bif (x9.2 == (10 : Int)) then some ((S_Chunked.mk c.Stage ([] : Bytes) c.Left c.Size), (33 : Int)) else
   bif (bif (x9.2 != (0 : Int)) then true else (decide (x9.1 > (IntKind.u64.wrap (IntKind.i64.wrap ((20000 : Int) - c.Size)))))) then some ((S_Chunked.mk c.Stage ([] : Bytes) c.Left c.Size), (2 : Int)) else
   bif (x9.1 == (0 : Int)) then some ((S_Chunked.mk (3 : Int) ([] : Bytes) (IntKind.i64.wrap x9.1) c.Size), (0 : Int)) else some ((S_Chunked.mk (1 : Int) ([] : Bytes) (IntKind.i64.wrap x9.1) c.Size), (0 : Int)) := fun x hx => by
  have h1 := (l6 59 x).1
  have h2 := lV (cutC 59 x).1
  rw [gJ (by unfold maxLen; omega), aEo, refHex (by unfold maxLen; omega)]
 unfold intarsiaref08_line
 rcases cE c.Line with h0 | ⟨t, x, h0⟩
 ·rw [h0, uD]
  have e : (gidx (decide (((([] : Bytes).length : Nat) : Int) > (0 : Int))) ([] : Bytes) (IntKind.i64.wrap (((([] : Bytes).length : Nat) : Int) - (1 : Int)))) = some default := rfl
  rw [e, aEo, show decide (((([] : Bytes).length : Nat) : Int) > (0 : Int)) = false from rfl, aDd, aDd]
  unfold zA
  rw [nJ (by simp), aEo, <- fin [] (by simp)]
 ·rw [h0] at hl ⊢
  have ht : t.length < maxLen := by simp at hl; unfold maxLen; omega
  have htl : t.length <= 1000 := by simp at hl; omega
  rw [gI, dY rfl, iG x t ht, aEo, aDc, aBC, f7]
  cases x == 13 with
  | true =>
   rw [aDc, aDc, kI x t ht, aEo]
   unfold zA
   rw [qV (by omega), aEo, <- fin t htl]
  | false =>
   rw [aDd, aDd]
   unfold zA
   rw [nJ (by simp at hl ⊢; omega), aEo, <- fin (t ++ [x]) hl]
theorem zB {c : S_Chunked} (hc : ChOk c) (h1 : c.Stage ≠ 1) (h4 : c.Stage ≠ 4) :
  ∃ st, sB c c.Line = some st /\ ((st.bad ≠ 0 /\ ∃ d, intarsiaref08_line c = some (d, st.bad)) ∨ (st.bad = 0 /\ intarsiaref08_line c = some (st.Chunked, 0) /\ ChOk st.Chunked /\ st.Chunked.Size = c.Size)) := by
 have hl := hc.line.1
 have hbl := oU c.Line
 have hst := hc.stage
 rw [vS (by omega)]
 unfold sB
 rw [oK (by unfold maxLen; omega), eX (by omega), aEo]
 unfold fOf zA
 by_cases h2 : c.Stage = 2
 ·have e2 : (c.Stage == (2 : Int)) = true := by simp [h2]
  rw [e2]
  simp only [aDc]
  obtain ⟨r, hr, hq⟩ := yM hc h1 (bare c.Line)
  rw [hr]
  refine ⟨r.2, rfl, ?_⟩
  unfold chunk_state_end at hr
  cases hx : (bare c.Line == ([] : Bytes)) with
  | true =>
   rw [hx] at hr
   simp only [aEp, aDd, Option.some.injEq] at hr
   subst hr
   right
   exact ⟨rfl, rfl, hq.resolve_left (by simp) |>.2⟩
  | false =>
   rw [hx] at hr
   simp only [aEr, aDc, Option.some.injEq] at hr
   subst hr
   left
   exact ⟨by simp, _, rfl⟩
 ·have e2 : (c.Stage == (2 : Int)) = false := by simp [h2]
  rw [e2]
  simp only [aDd]
  by_cases h3 : c.Stage = 3
  ·have e3 : (c.Stage == (3 : Int)) = true := by simp [h3]
   rw [e3]
   simp only [aDc]
   obtain ⟨r, hr, hq⟩ := tO hc h1 h3 (bare c.Line)
   rw [hr]
   refine ⟨r.2, rfl, ?_⟩
   unfold chunk_state_tail at hr
   cases hx : (bare c.Line == ([] : Bytes)) with
   | true =>
    rw [hx] at hr
    simp only [aDc, Option.some.injEq] at hr
    subst hr
    right
    exact ⟨rfl, rfl, hq.resolve_left (by simp) |>.2⟩
   | false =>
    rw [hx] at hr
    simp only [aDd, Option.some.injEq] at hr
    subst hr
    right
    exact ⟨rfl, rfl, hq.resolve_left (by simp) |>.2⟩
  ·have e3 : (c.Stage == (3 : Int)) = false := by simp [h3]
   rw [e3]
   simp only [aDd]
   obtain ⟨r, hr, hq⟩ := tP hc h1 (bare c.Line) (by omega)
   rw [hr]
   refine ⟨r.2, rfl, ?_⟩
   unfold chunk_state_size at hr
   have hcl := (l6 59 (bare c.Line)).1
   have htl := lV (cutC 59 (bare c.Line)).1
   rw [g5 59 (by unfold maxLen; omega), aEo, gZ (by unfold maxLen; omega), aEo] at hr
   obtain ⟨v, hv, hv0, hv1⟩ := l7 (s := trim (cutC 59 (bare c.Line)).1) (by unfold maxLen; omega)
   rw [hv, aEo] at hr ⊢
   cases ha : (v.2 == (10 : Int)) with
   | true =>
    rw [ha] at hr
    simp only [aDc, Option.some.injEq] at hr
    subst hr
    exact .inl ⟨by simp, _, rfl⟩
   | false =>
    rw [ha] at hr
    simp only [aDd] at hr ⊢
    cases hb : (bif (v.2 != (0 : Int)) then true else (decide (v.1 > (IntKind.u64.wrap (IntKind.i64.wrap ((20000 : Int) - c.Size)))))) with
    | true =>
     rw [hb] at hr
     simp only [aDc, Option.some.injEq] at hr
     subst hr
     exact .inl ⟨by simp, _, rfl⟩
    | false =>
     rw [hb] at hr
     simp only [aDd] at hr ⊢
     cases hz : (v.1 == (0 : Int)) with
     | true =>
      rw [hz] at hr
      simp only [aDc, Option.some.injEq] at hr
      subst hr
      have hz := eq_of_beq hz
      rw [hz]
      refine .inr ⟨rfl, ?_, hq.resolve_left (by simp) |>.2⟩
      show some (S_Chunked.mk 3 [] 0 c.Size, (0 : Int)) = some (S_Chunked.mk 3 [] c.Left c.Size, (0 : Int))
      rw [(hc.rest h1).1]
     | false =>
      rw [hz] at hr
      simp only [aDd, Option.some.injEq] at hr
      subst hr
      exact .inr ⟨rfl, rfl, hq.resolve_left (by simp) |>.2⟩
theorem zC : intarsiaref08_Right aK = some true := by
 unfold intarsiaref08_Right
 rw [aT]; rfl
theorem dat_ok {c : S_Chunked} (hc : ChOk c) (h1 : c.Stage = 1) : ChOk (dat c 1) /\ (dat c 1).Size = c.Size + 1 := by
 obtain ⟨g1, g2, g3⟩ := hc.data h1
 have hsz := hc.size
 unfold dat
 cases hz : (c.Left - ((1 : Nat) : Int) == 0) with
 | true =>
  have hz := eq_of_beq hz
  refine ⟨⟨by simp, ⟨by show 0 <= c.Size + ((1 : Nat) : Int); omega, by show c.Size + ((1 : Nat) : Int) <= 20000; omega⟩, hc.line, fun h => (by cases h), fun _ => ⟨hz, fun h => (by cases h)⟩⟩, rfl⟩
 | false =>
  have hz : c.Left - ((1 : Nat) : Int) ≠ 0 := by simpa using hz
  refine ⟨⟨hc.stage, ⟨by show 0 <= c.Size + ((1 : Nat) : Int); omega, by show c.Size + ((1 : Nat) : Int) <= 20000; omega⟩, hc.line, fun _ => ⟨by show 1 <= c.Left - ((1 : Nat) : Int); omega, by show c.Left - ((1 : Nat) : Int) <= 20000 - (c.Size + ((1 : Nat) : Int)); omega, g3⟩, fun h => absurd h1 h⟩, rfl⟩
theorem aBD {c : S_Chunked} (hc : ChOk c) (h1 : c.Stage ≠ 1) (h4 : c.Stage ≠ 4) {x : UInt8} (hx : (x == 10) = false) (hl : c.Line.length + 1 <= 200) : ChOk (addL c [x]) :=
 ⟨hc.stage, hc.size, ⟨by show (c.Line ++ [x]).length <= 200; simp; omega, by
  show (c.Line ++ [x]).contains 10 = false
  have h10 : ((10 : UInt8) == x) = false := by
   cases e : ((10 : UInt8) == x) with
   | false => rfl
   | true => rw [<- eq_of_beq e] at hx; cases hx
  rw [List.contains_eq_any_beq, List.any_append, <- List.contains_eq_any_beq, hc.line.2]
  simp [h10]⟩, fun h => absurd h h1, fun h => ⟨(hc.rest h1).1, fun h' => absurd h' h4⟩⟩
theorem sF {t : Bytes} (ht : t.length <= 1000000) : intarsiaref08_Feed aK t = (cRun aK t).map toF := by
 unfold intarsiaref08_Feed
 rw [zC, aEo]
 show loopO (intarsiaref08_Feed_b1 t) (([] : Bytes), (0 : Int), aK) = _
 have key := eD (body := intarsiaref08_Feed_b1 t) (fun x => t.length - x.2.1.toNat) (fun x => ∃ i : Nat, x.2.1 = (i : Int) /\ i <= t.length /\ ChOk x.2.2 /\ x.2.2.Size = ((x.1.length : Nat) : Int))
  (fun x => ((cRun x.2.2 (t.drop x.2.1.toNat)).map (cB x.1 x.2.1.toNat)).map toF) (fun x hx => ?_) (([] : Bytes), (0 : Int), aK) ⟨0, rfl, Nat.zero_le _, kP, rfl⟩
 ·rw [key]
  show ((cRun aK t).map (cB [] 0)).map toF = _
  rw [aBx]
  cases cRun aK t <;> rfl
 obtain ⟨d, a, c⟩ := x
 obtain ⟨i, rfl, hi, hc, hsz⟩ := hx
 dsimp only at hi hc hsz ⊢
 rw [aEt]
 have hcs := hc.size
 unfold intarsiaref08_Feed_b1
 dsimp only
 by_cases hlt : i < t.length
 ·have hx : t[i]? = some t[i] := List.getElem?_eq_getElem hlt
  have hd : t.drop i = t[i] :: t.drop (i + 1) := List.drop_eq_getElem_cons hlt
  rw [aM hlt, aDc, hd]
  by_cases h4 : c.Stage = 4
  ·right
   have e : (c.Stage != (4 : Int)) = false := by simp [h4]
   rw [e, aDd, mA h4]
   refine ⟨_, rfl, ?_⟩
   show some (c, d ++ [], ((0 + i : Nat) : Int), (0 : Int)) = _
   simp
  ·have e : (c.Stage != (4 : Int)) = true := by simp [h4]
   rw [e, aDc, aV hx, aEo, aL hlt (by unfold maxLen; omega)]
   generalize hb : t[i] = b
   by_cases h1 : c.Stage = 1
   · -- data
    left
    obtain ⟨g1, g2, g3⟩ := hc.data h1
    have hst : intarsiaref08_Step c (b.toNat : Int) = some (dat c 1, [b], 0) := by
     unfold intarsiaref08_Step dat
     have e1 : (c.Stage == (1 : Int)) = true := by simp [h1]
     rw [e1, aDc, aC (show -9223372036854775808 <= c.Left - 1 by omega) (by omega), aC (show -9223372036854775808 <= c.Size + 1 by omega) (by omega), p3]
     cases (c.Left - ((1 : Nat) : Int) == 0) <;> rfl
    have hcat : cat d [b] = some (d ++ [b]) := bZ (by simp; unfold maxLen; omega)
    rw [hst, aEo]
    dsimp only
    rw [show ((0 : Int) != 0) = false from rfl, aDd, hcat, aEo]
    obtain ⟨k1, k2⟩ := dat_ok hc h1
    refine ⟨(d ++ [b], ((i + 1 : Nat) : Int), dat c 1), rfl, ⟨i + 1, rfl, by omega, k1, by rw [k2, hsz]; simp⟩, ?_, ?_⟩
    ·show t.length - (i + 1) < t.length - i; omega
    ·show _ = ((cRun (dat c 1) (t.drop (i + 1))).map (cB (d ++ [b]) (i + 1))).map toF
     rw [iN h1, dN, Nat.add_comm 1 i]
   ·have e1 : (c.Stage == (1 : Int)) = false := by simp [h1]
    cases hb10 : b == 10 with
    | true =>
     have hb10 := eq_of_beq hb10
     subst hb10
     obtain ⟨st, hs1, hs2⟩ := zB hc h1 h4
     rw [sC h1 h4, hs1, aEo]
     have hstep : ∀ q, intarsiaref08_line c = some q -> intarsiaref08_Step c (((10 : UInt8).toNat : Nat) : Int) = some (q.1, [], q.2) := fun q hq => by
      unfold intarsiaref08_Step
      rw [e1, aDd, show ((((10 : UInt8).toNat : Nat) : Int) == 10) = true from rfl, aDc, hq]; rfl
     rcases hs2 with ⟨hbad, q, hq⟩ | ⟨hbad, hq, hok, hsize⟩
     ·right
      rw [hstep _ hq, aEo]
      have eb : (st.bad != (0 : Int)) = true := by simpa using hbad
      dsimp only
      rw [eb, aDc, aDc]
      exact ⟨_, rfl, rfl⟩
     ·left
      rw [hstep _ hq, aEo]
      dsimp only
      have eb : (st.bad != (0 : Int)) = false := by rw [hbad]; rfl
      have hcat : cat d [] = some (d ++ []) := bZ (by simp; unfold maxLen; omega)
      rw [show ((0 : Int) != 0) = false from rfl, aDd, hcat, aEo, eb, aDd, aEs]
      refine ⟨(d, ((i + 1 : Nat) : Int), st.Chunked), rfl, ⟨i + 1, rfl, by omega, hok, by rw [hsize, hsz]⟩, ?_, ?_⟩
      ·show t.length - (i + 1) < t.length - i; omega
      ·show _ = ((cRun st.Chunked (t.drop (i + 1))).map (cB d (i + 1))).map toF
       rw [dN, aEs, Nat.add_comm 1 i]
    | false =>
     have hn10 : ((b.toNat : Int) == 10) = false := by rw [yY]; exact hb10
     have hll := hc.line.1
     rw [oJ h1 h4 hb10]
     have e200 : (((c.Line.length : Nat) : Int) == 200) = decide (c.Line.length + 1 > 200) := by
      rw [Bool.eq_iff_iff, beq_iff_eq, decide_eq_true_iff]; omega
     cases h200 : decide (c.Line.length + 1 > 200) with
     | true =>
      right
      have hst : intarsiaref08_Step c (b.toNat : Int) = some (c, [], 33) := by
       unfold intarsiaref08_Step
       rw [e1, aDd, hn10, aDd, e200, h200]; rfl
      rw [hst, aEo]
      exact ⟨_, rfl, rfl⟩
     | false =>
      left
      have h200' := of_decide_eq_false h200
      have hcat1 : cat c.Line ([u8 (b.toNat : Int)] : List UInt8) = some (c.Line ++ [b]) := by rw [p3]; exact bZ (by simp; unfold maxLen; omega)
      have hst : intarsiaref08_Step c (b.toNat : Int) = some (addL c [b], [], 0) := by
       unfold intarsiaref08_Step
       rw [e1, aDd, hn10, aDd, e200, h200, aDd, hcat1]; rfl
      have hcat : cat d [] = some (d ++ []) := bZ (by simp; unfold maxLen; omega)
      rw [hst, aEo]
      dsimp only
      rw [show ((0 : Int) != 0) = false from rfl, aDd, hcat, aEo, aDd, aEs]
      refine ⟨(d, ((i + 1 : Nat) : Int), addL c [b]), rfl, ⟨i + 1, rfl, by omega, aBD hc h1 h4 hb10 (by omega), hsz⟩, ?_, ?_⟩
      ·show t.length - (i + 1) < t.length - i; omega
      ·show _ = ((cRun (addL c [b]) (t.drop (i + 1))).map (cB d (i + 1))).map toF
       rw [dN, aEs, Nat.add_comm 1 i]
 ·right
  have he : i = t.length := by omega
  subst he
  rw [aO, aDd, aDd, List.drop_length, kR]
  refine ⟨_, rfl, ?_⟩
  show some (c, d ++ [], ((0 + t.length : Nat) : Int), (0 : Int)) = _
  simp
theorem aBE {u r : Bytes} (c : UInt8) (hu : u.contains c = false) : cutC c (u ++ c :: r) = (u, r, true) := by
 induction u with
 | nil => unfold cutC; simp
 | cons x u ih =>
  rw [List.contains_cons, Bool.or_eq_false_iff] at hu
  have hx : (x == c) = false := by
   cases h : (x == c) with
   | false => rfl
   | true => rw [eq_of_beq h] at hu; simp at hu
  show cutC c (x :: (u ++ c :: r)) = _
  unfold cutC
  rw [hx, ih hu.2]; rfl
abbrev HQ : Type := S_Message × S_Body × Int
noncomputable def oY (a : Bool) (m first rest : Bytes) : Option HQ :=
 bif (bif a then bT first else aU first).2 != (0 : Int) then some (S_Message.mk (bif a then bT first else aU first).1 [] [], B 0 0, (bif a then bT first else aU first).2) else
 (head_Parse rest).bind fun f => bif f.2 != (0 : Int) then some (S_Message.mk (bif a then bT first else aU first).1 f.1 [], B 0 0, f.2) else
 some (S_Message.mk (bif a then bT first else aU first).1 f.1 [], eI a m (S_Message.mk (bif a then bT first else aU first).1 f.1 []))
theorem uF (a : Bool) {l : Bytes} (hl : l.length <= 1000000) : d3 (bif a then bT l else aU l).1 := by
 have hz : d3 dH := ⟨by simp [dH], by simp [dH], by simp [dH]⟩
 have hb : ∀ n : Nat, n <= l.length -> n <= maxLen := fun n h => by unfold maxLen; omega
 cases a with
 | true =>
  rcases l5 l with ⟨s, h, h1, h2, h3, h4, h5⟩ | h
  ·rw [aDc, h]; exact ⟨hb _ h3, hb _ h4, by rw [h5]; simp⟩
  ·rw [aDc, h]; exact hz
 | false =>
  rcases jX l with ⟨s, h, h1, h2, h3, h4, h5⟩ | h
  ·rw [aDd, h]; exact ⟨by rw [h3]; simp, by rw [h4]; simp, hb _ h5⟩
  ·rw [aDd, h]; exact hz
theorem sG {a : Bool} {m L R : Bytes} (hL : L.contains 10 = false) (hl : L.length + R.length <= 60000) : intarsiaref10_begin a m (L ++ 10 :: R) = oY a m (bare L) R := by
 have hbl := oU L
 have e1 : intarsiaref10_line (L ++ 10 :: R) = some (bare L, R) := by
  unfold intarsiaref10_line
  have w1 : IntKind.i64.wrap (((L.length : Nat) : Int) + 1) = ((L.length + 1 : Nat) : Int) := by rw [aC (by omega) (by omega)]; omega
  rw [show (10 : Int) = (((10 : UInt8).toNat : Nat) : Int) from rfl, oT 10 (by unfold maxLen; simp; omega) hL, aEo, mG, aEo, jO (by omega), aEo, w1, mH]
  rfl
 unfold intarsiaref10_begin oY
 rw [e1, aEo]
 dsimp only
 rw [sE (by omega), aEo]
 have hs := uF a (l := bare L) (by omega)
 cases a with
 | true =>
  simp only [aDc, aEp, aDd] at hs ⊢
  cases hp : ((bT (bare L)).2 != (0 : Int)) with
  | true => rfl
  | false =>
   simp only [aDd]
   obtain ⟨f, hf, hfr, _⟩ := eV (s := R) (by omega)
   rw [j7 (by omega), hf, aEo, aEo]
   cases hf2 : (f.2 != (0 : Int)) with
   | true => rfl
   | false =>
    simp only [aDd]
    rw [oR hs hfr]; rfl
 | false =>
  simp only [aDd, aEr, aDc] at hs ⊢
  rw [qR (by omega), aEo]
  cases hp : ((aU (bare L)).2 != (0 : Int)) with
  | true => rfl
  | false =>
   simp only [aDd]
   obtain ⟨f, hf, hfr, _⟩ := eV (s := R) (by omega)
   rw [j7 (by omega), hf, aEo, aEo]
   cases hf2 : (f.2 != (0 : Int)) with
   | true => rfl
   | false =>
    simp only [aDd]
    have := qP (s := (aU (bare L)).1) (l := f.1) (m := m) hs hfr
    rw [show S_Start.mk ((aU (bare L)).1.Method) ((aU (bare L)).1.Target) ((aU (bare L)).1.Code) ((aU (bare L)).1.Reason) ((aU (bare L)).1.Minor) = (aU (bare L)).1 from rfl, this]; rfl
def outW (a : Bool) (m b : Bytes) (O : List S_Message) : S_wire_reading := S_wire_reading.mk (S_Reader.mk a m b false bK (B 0 0) aK 0) O
def zD (s : S_Start) : Bool := bif (s.Code != (0 : Int)) then (decide (s.Code < (200 : Int))) else false
noncomputable def iP (a : Bool) (m b : Bytes) (O : List S_Message) (q : HQ) : Bool × S_wire_reading :=
 bif q.2.2 != (0 : Int) then (false, badW a m q.2.2 O) else bif zD q.1.Start then (true, outW a m b O) else (true, inW a m b q.1 q.2.1 aK O)
theorem zE {a : Bool} {m b L R R1 R2 : Bytes} {O : List S_Message} {f : Bool} (rd : Bytes -> Option (S_Start × Int)) (hrd : ∀ l : Bytes, l.length <= 1000000 -> rd l = some (bif a then bT l else aU l)) {e : Nat} (he : e <= b.length) (hL : L.length <= 60000) (hR : R.length <= 60000)
  (h1 : strings_TrimSuffix R1 [10] = some R2) (h2 : strings_TrimSuffix R2 [13] = some R) : begT rd (outW a m b O) (e : Int) (L, R1, f) = (oY a m (bare L) R).map (iP a m (b.drop e) O) := by
 have hbl := oU L
 unfold begT oY
 dsimp only
 rw [oK (s := L) (by unfold maxLen; omega), eX (by omega), aEo, hrd _ (by omega), aEo]
 have hs := uF a (l := bare L) (by omega)
 generalize hp : (bif a then bT (bare L) else aU (bare L)) = p at hs
 cases hp2 : (p.2 != (0 : Int)) with
 | true =>
  rw [aDc, aDc, cR]
  show some (false, badW a m p.2 O) = some (iP a m (b.drop e) O (S_Message.mk p.1 [] [], B 0 0, p.2))
  unfold iP
  dsimp only
  rw [hp2]; rfl
 | false =>
  rw [aDd, aDd, h1, aEo, h2, aEo]
  obtain ⟨g, hg, hgr, _⟩ := eV (s := R) (by omega)
  rw [hg, aEo, aEo]
  cases hg2 : (g.2 != (0 : Int)) with
  | true =>
   rw [aDc, aDc, cR]
   show some (false, badW a m g.2 O) = some (iP a m (b.drop e) O (S_Message.mk p.1 g.1 [], B 0 0, g.2))
   unfold iP
   dsimp only
   rw [hg2]; rfl
  | false =>
   rw [aDd, aDd]
   have hbody := kN (r := S_Reader.mk a m b false (S_Message.mk p.1 g.1 []) (B 0 0) aK 0) hs hgr
   show (wire_body (S_Reader.mk a m b false (S_Message.mk p.1 g.1 []) (B 0 0) aK 0)).bind _ = _
   rw [hbody, aEo]
   show _ = some (iP a m (b.drop e) O (S_Message.mk p.1 g.1 [], eI a m (S_Message.mk p.1 g.1 [])))
   dsimp only
   generalize eI a m (S_Message.mk p.1 g.1 []) = bb
   cases hb2 : (bb.2 != (0 : Int)) with
   | true =>
    rw [aDc, cR]
    unfold iP
    dsimp only
    rw [hb2]; rfl
   | false =>
    rw [aDd]
    have es : slc b (e : Int) (b.length : Int) = some (b.drop e) := by
     unfold slc
     rw [aB (by omega)]
     show some ((b.drop e).take (b.length - e)) = _
     rw [aEq (by simp)]
    show (slc b (e : Int) (b.length : Int)).bind _ = _
    rw [es, aEo]
    unfold iP
    dsimp only
    rw [hb2, aDd]
    unfold zD
    show (bif (bif (p.1.Code != (0 : Int)) then (decide (p.1.Code < (200 : Int))) else false) then _ else _) = some (bif (bif (p.1.Code != (0 : Int)) then (decide (p.1.Code < (200 : Int))) else false) then _ else _)
    cases (bif (p.1.Code != (0 : Int)) then (decide (p.1.Code < (200 : Int))) else false) <;> rfl
theorem zF (a : Bool) : (bif a then bT [] else aU []) = (dH, 30) := by cases a <;> kernel_rfl
theorem zG (a : Bool) : (∀ l : Bytes, l.length <= 1000000 -> start_Parse l = some (bif true then bT l else aU l)) /\ (∀ l : Bytes, l.length <= 1000000 -> start_Status l = some (bif false then bT l else aU l)) := ⟨fun l hl => oD hl, fun l hl => p7 hl⟩
theorem iQ {a : Bool} {m b : Bytes} {O : List S_Message} {e : Nat} (hb : b.length <= 50000) (he : endB b = ((e : Int), 0)) (hle : e <= b.length) {L R R1 R2 : Bytes} {f : Bool} (hc : cutC 10 (b.take e) = (L, R1, f))
  (h1 : strings_TrimSuffix R1 [10] = some R2) (h2 : strings_TrimSuffix R2 [13] = some R) (hL : L.length <= 60000) (hR : R.length <= 60000) : begJ (outW a m b O) = (oY a m (bare L) R).map (iP a m (b.drop e) O) := by
 unfold begJ
 show (head_End b).bind _ = _
 rw [nG (by omega), he, aEo]
 dsimp only
 rw [show ((0 : Int) == 3) = false from rfl, show ((0 : Int) != 0) = false from rfl, aDd, aDd]
 have es : slc b 0 (e : Int) = some (b.take e) := by unfold slc; rw [aB (by omega)]; simp
 show (slc b 0 (e : Int)).bind _ = _
 rw [es, aEo, g5 10 (by unfold maxLen; simp; omega), aEo, hc]
 cases a with
 | true => exact zE (a := true) start_Parse (zG true).1 hle hL hR h1 h2
 | false => exact zE (a := false) start_Status (zG true).2 hle hL hR h1 h2
theorem aBF {R : Bytes} (h : R = [] ∨ R.getLast? = some 10) (hl : R.length + 1 <= maxLen) : strings_TrimSuffix R [13] = some R := by
 rcases cE R with rfl | ⟨t, x, rfl⟩
 ·exact f6 13
 ·rcases h with h | h
  ·simp at h
  ·have hx : x = 10 := by simpa using h
   subst hx
   rw [eW 13 10 (by simp at hl ⊢; omega)]; rfl
theorem zH {a : Bool} {m b : Bytes} {e : Int} (hb : b.length <= 50000) (he : endB b = (e, 0)) : ∃ (k : Nat) (q : HQ), e = (k : Int) /\ 1 <= k /\ k <= b.length /\ intarsiaref10_head a m (b.take k) = some q /\ (∀ O, begJ (outW a m b O) = some (iP a m (b.drop k) O q)) /\
  (q.2.2 = 0 -> q.1.Body = [] /\ tN a q.1 q.2.1) := by
 obtain ⟨u, v, t, hs, hev, hv, hu⟩ := y5 (by omega) he
 have hlen : (u ++ v).length <= b.length := by rw [hs]; simp
 have htk : b.take (u ++ v).length = u ++ v := by rw [hs, List.take_left]
 refine ⟨(u ++ v).length, ?_⟩
 subst hev
 rcases y6 hu with rfl | ⟨L, R, rfl, hL, hR⟩
 ·refine ⟨(bK, B 0 0, 30), rfl, by rcases hv with rfl | rfl <;> simp, hlen, ?_, fun O => ?_, fun h => by cases h⟩
  ·rw [htk]
   rcases hv with rfl | rfl <;> rfl
  ·have hv0 : oY a m [] [] = some (S_Message.mk dH [] [], B 0 0, 30) := by
    unfold oY
    rw [zF]; rfl
   rcases hv with rfl | rfl
   ·rw [iQ hb he hlen (L := []) (R1 := []) (R2 := []) (R := []) (f := true) (by rw [htk]; rfl) (f6 10) (f6 13) (by simp) (by simp), uD, hv0]; rfl
   ·rw [iQ hb he hlen (L := [13]) (R1 := []) (R2 := []) (R := []) (f := true) (by rw [htk]; rfl) (f6 10) (f6 13) (by simp) (by simp), show bare [13] = [] from rfl, hv0]; rfl
 ·have hlr : L.length + 1 + R.length + v.length <= 50000 := by simp at hlen; omega
  have hmax : ∀ n : Nat, n <= 100000 -> n <= maxLen := fun n h => by unfold maxLen; omega
  have hq : ∃ q, oY a m (bare L) R = some q /\ (q.2.2 = 0 -> q.1.Body = [] /\ tN a q.1 q.2.1) := by
   unfold oY
   generalize (bif a then bT (bare L) else aU (bare L)) = p
   cases hp2 : (p.2 != (0 : Int)) with
   | true => exact ⟨_, rfl, fun h => by rw [show p.2 = 0 from h] at hp2; cases hp2⟩
   | false =>
    obtain ⟨g, hg, hgr, _⟩ := eV (s := R) (by omega)
    rw [aDd, hg, aEo]
    cases hg2 : (g.2 != (0 : Int)) with
    | true => exact ⟨_, rfl, fun h => by rw [show g.2 = 0 from h] at hg2; cases hg2⟩
    | false => exact ⟨_, rfl, fun h => ⟨rfl, kO (m := m) h⟩⟩
  obtain ⟨q, hq, hqb⟩ := hq
  refine ⟨q, rfl, by simp; omega, hlen, ?_, fun O => ?_, hqb⟩
  ·rw [htk, <- hq, <- sG hL (by omega)]
   unfold intarsiaref10_head
   have hul : (L ++ 10 :: R).length = L.length + 1 + R.length := by simp; omega
   rcases hv with rfl | rfl
   ·have hl1 : (((L ++ 10 :: R) ++ [10]).length : Int) - 1 = (((L ++ 10 :: R).length : Nat) : Int) := by simp; omega
    have hl2 : (((L ++ 10 :: R).length : Nat) : Int) - 1 = ((L.length + R.length : Nat) : Int) := by rw [hul]; omega
    rw [hl1, aC (by omega) (by omega), hl2, aC (by omega) (by omega), decide_eq_true (show (((L ++ 10 :: R).length : Nat) : Int) > 0 by omega), dY rfl]
    have hx : ((L ++ 10 :: R) ++ [10])[L.length + R.length]? = some 10 := by
     rcases hR with rfl | hR
     ·simp
     ·obtain ⟨r', x', rfl⟩ := (cE R).resolve_left (by rintro rfl; simp at hR)
      have hx' : x' = 10 := by simpa using hR
      subst hx'
      have : L.length + (r' ++ [(10 : UInt8)]).length = (L ++ 10 :: r').length := by simp
      rw [this, show (L ++ 10 :: (r' ++ [10])) ++ [10] = (L ++ 10 :: r') ++ ([10] ++ [10]) by simp]
      simp
    rw [aV hx, aEo, aDc, show ((((10 : UInt8).toNat : Nat) : Int) == 13) = false from rfl, aDd, show ((((L ++ 10 :: R).length : Nat) : Int) == 0) = false by rw [hul]; simp; omega, aDd, mG, aEo]
    cases intarsiaref10_begin a m (L ++ 10 :: R) <;> rfl
   ·have hl1 : (((L ++ 10 :: R) ++ [13, 10]).length : Int) - 1 = (((L ++ 10 :: R).length + 1 : Nat) : Int) := by simp; omega
    have hl2 : (((L ++ 10 :: R).length + 1 : Nat) : Int) - 1 = (((L ++ 10 :: R).length : Nat) : Int) := by omega
    rw [hl1, aC (by omega) (by omega), hl2, aC (by omega) (by omega), decide_eq_true (show (((L ++ 10 :: R).length + 1 : Nat) : Int) > 0 by omega), dY rfl]
    have hx : ((L ++ 10 :: R) ++ [13, 10])[(L ++ 10 :: R).length]? = some 13 := by simp
    rw [aV hx, aEo, aDc, show ((((13 : UInt8).toNat : Nat) : Int) == 13) = true from rfl, aDc, show ((((L ++ 10 :: R).length : Nat) : Int) == 0) = false by rw [hul]; simp; omega, aDd, mG, aEo]
    cases intarsiaref10_begin a m (L ++ 10 :: R) <;> rfl
  ·have hcut : cutC 10 (b.take ((L ++ 10 :: R) ++ v).length) = (L, R ++ v, true) := by
    rw [htk, show (L ++ 10 :: R) ++ v = L ++ 10 :: (R ++ v) by simp, aBE 10 hL]
   rcases hv with rfl | rfl
   ·rw [iQ hb he hlen (L := L) (R1 := R ++ [10]) (R2 := R) (R := R) (f := true) hcut (by rw [eW 10 10 (hmax _ (by omega))]; rfl) (aBF hR (hmax _ (by omega))) (by omega) (by omega), hq]; rfl
   ·rw [iQ hb he hlen (L := L) (R1 := R ++ [13, 10]) (R2 := R ++ [13]) (R := R) (f := true) hcut (by rw [show R ++ [(13 : UInt8), 10] = (R ++ [13]) ++ [10] by simp, eW 10 10 (hmax _ (by simp; omega))]; rfl) (by rw [eW 13 13 (hmax _ (by omega))]; rfl) (by omega) (by omega), hq]; rfl
theorem zI (x : UInt8) : dO [x] = bif x == 10 then [] else [x] := by
 unfold dO
 cases x == 10 with
 | true => rfl
 | false => cases x == 13 <;> rfl
theorem zJ (x y : UInt8) (s : Bytes) : dO (x :: y :: s) = bif x == 10 then dO (y :: s) else bif (bif x == 13 then y == 10 else false) then dO s else x :: y :: s := by
 rw [dO]
 cases x == 10 with
 | true => rfl
 | false =>
  cases x == 13 with
  | true => rfl
  | false => rfl
theorem vT {b : Bytes} (hb : b.length <= 50000) : intarsiaref10_skip b = some (dO b) := by
 unfold intarsiaref10_skip
 refine eD (body := intarsiaref10_skip_b1) (fun x => x.length) (fun x => x.length <= 50000) (fun x => some (dO x)) (fun x hx => ?_) b hb
 unfold intarsiaref10_skip_b1
 match x, hx with
 | [], _ => right; exact ⟨_, rfl, rfl⟩
 | [x], hx =>
  have e1 : decide ((([x] : Bytes).length : Int) > (0 : Int)) = true := rfl
  have e2 : decide ((([x] : Bytes).length : Int) > (1 : Int)) = false := rfl
  rw [e1, e2, dY rfl, idx0, aEo, aDc, yY, zI]
  cases x == 10 with
  | true =>
   left
   rw [aDc, kH, aEo]
   exact ⟨[], rfl, by simp, by simp, rfl⟩
  | false =>
   right
   exact ⟨_, rfl, rfl⟩
 | x :: y :: s, hx =>
  have e1 : decide ((((x :: y :: s).length : Nat) : Int) > (0 : Int)) = true := decide_eq_true (by simp; omega)
  have e2 : decide ((((x :: y :: s).length : Nat) : Int) > (1 : Int)) = true := decide_eq_true (by simp; omega)
  simp only [List.length_cons] at hx
  rw [e1, e2, dY rfl, idx0, aEo, aDc, yY, zJ]
  cases x == 10 with
  | true =>
   left
   rw [aDc, aDc, kH, aEo]
   exact ⟨y :: s, rfl, by simp; omega, by simp, rfl⟩
  | false =>
   rw [aDd, aDd, aEo, aDc, aBC]
   cases x == 13 with
   | true =>
    rw [dY rfl, idx1, aEo, aDc, yY]
    cases y == 10 with
    | true =>
     left
     have e3 : slc (x :: y :: s) (2 : Int) (((x :: y :: s).length : Nat) : Int) = some s := oV [x, y] s
     rw [aDc, aDc, e3, aEo]
     exact ⟨s, rfl, by omega, by simp; omega, rfl⟩
    | false => right; exact ⟨_, rfl, rfl⟩
   | false => right; exact ⟨_, rfl, rfl⟩
abbrev TT : Type := S_intarsiaref10_T
def T0 (O : List S_Message) (b : Bytes) (k e : Int) : TT := S_intarsiaref10_T.mk O b false bK k e
inductive Fin (a : Bool) (m : Bytes) : TT -> S_Reader -> Prop
 | bad (O : List S_Message) (b : Bytes) (i : Bool) (k e : Int) (h : e ≠ 0) : Fin a m (S_intarsiaref10_T.mk O b i bK k e) (badW a m e []).Reader
 | out (O : List S_Message) (b : Bytes) (k : Int) : Fin a m (T0 O b k 0) (outW a m b []).Reader
 | inn (O : List S_Message) (h : S_Message) (bd : S_Body) (c : S_Chunked) : Fin a m (S_intarsiaref10_T.mk O [] true h bd.Kind 0) (inW a m [] h bd c []).Reader
theorem oZ {a : Bool} {m : Bytes} (t : TT) (h : (bif (t.Bad == (0 : Int)) then (!t.In) else false) = false) : loopO (intarsiaref10_All_b1 a m) t = some t := by
 rw [aT]
 unfold intarsiaref10_All_b1
 rw [h]; rfl
noncomputable def allR (a : Bool) (m : Bytes) (O : List S_Message) (k : Int) (s : Bytes) : Option (TT ⊕ TT) :=
 (intarsiaref07_End s).bind fun x3 => bif (x3.2 == (3 : Int)) then some (.inr (T0 O s k 0)) else bif (x3.2 != (0 : Int)) then some (.inr (T0 O s k x3.2)) else
 (slc s 0 x3.1).bind fun x4 => (intarsiaref10_head a m x4).bind fun x5 => (slc s x3.1 (s.length : Int)).bind fun x6 =>
 bif (bif (x5.2.2 == (0 : Int)) then (bif a then true else (decide (x5.1.Start.Code ≥ (200 : Int)))) else false) then
  (intarsiaref10_body (T0 O x6 k x5.2.2) x5.1 x5.2.1).bind fun x7 => some (.inl x7)
 else some (.inl (T0 O x6 k x5.2.2))
theorem qW {a : Bool} {m : Bytes} {O : List S_Message} {k : Int} {b : Bytes} (hb : b.length <= 50000) : intarsiaref10_All_b1 a m (T0 O b k 0) = allR a m O k (skB a b) := by
 unfold intarsiaref10_All_b1 allR
 cases a with
 | true =>
  show ((intarsiaref10_skip b).bind _ : Option (TT ⊕ TT)) = _
  rw [vT hb, aEo]; rfl
 | false => rfl
theorem sH {O : List S_Message} (h : S_Message) (hO : O.length <= 999999) : app 104 O ([h] : List S_Message) = some (O ++ [h]) := m7 (by simp; omega) (by omega)
theorem o5 {b : Bytes} {n : Nat} (h : n <= b.length) : slc b (n : Int) (b.length : Int) = some (b.drop n) := by
 unfold slc
 rw [aB (by omega)]
 show some ((b.drop n).take (b.length - n)) = _
 rw [aEq (by simp)]
theorem aAD (a : Bool) (m : Bytes) : ∀ (n : Nat) (b : Bytes) (O : List S_Message) (k : Int), mu (outW a m b O) <= n -> WI a m (outW a m b O) ->
  ∃ t r, loopO (intarsiaref10_All_b1 a m) (T0 O b k 0) = some t /\ loopO wire_Feed_b1 (outW a m b O) = some (r, t.Out, 0) /\ Fin a m t r := by
 intro n
 induction n with
 | zero =>
  intro b O k hn hw
  have hb0 : b = [] := by
   have : 2 * b.length + 0 <= 0 := hn
   exact List.eq_nil_of_length_eq_zero (by omega)
  subst hb0
  refine ⟨T0 O [] k 0, (outW a m [] []).Reader, ?_, ?_, .out ..⟩
  ·rw [aT, qW (by simp)]
   have : skB a [] = [] := by cases a <;> rfl
   rw [this]
   unfold allR
   rw [qU (by simp)]; rfl
  ·have hst : g6 (outW a m [] O) = some (false, outW a m [] O) := by
    have hj : g6 (outW a m [] O) = begJ (bA (outW a m [] O) (skB a [])) := oL (w := outW a m [] O) (by show ([] : Bytes).length <= 50000; simp)
    rw [hj]
    have : skB a [] = [] := by cases a <;> rfl
    rw [this]
    unfold begJ
    show (head_End []).bind _ = _
    rw [nG (by simp)]; rfl
   rw [cU hst]; rfl
 | succ n ih =>
  intro b O k hn hw
  have hbuf : b.length <= 50000 := hw.buf
  have hO := hw.cnt
  have hmu : mu (outW a m b O) = 2 * b.length := rfl
  rw [hmu] at hn
  have hO : O.length + 2 * b.length <= 1000000 := hO
  have hsl : (skB a b).length <= b.length := yU a b
  have hst : g6 (outW a m b O) = begJ (outW a m (skB a b) O) := oL (w := outW a m b O) hbuf
  rw [aT, qW hbuf]
  unfold allR
  rw [qU (by omega), aEo]
  generalize hs : skB a b = s at *
  rcases vP (s := s) (by omega) with ⟨h0, h1, h2⟩ | ⟨h3, h4⟩ | h5
  ·have he : endB s = ((endB s).1, 0) := by rw [<- h0]
   obtain ⟨e, q, hev, he1, he2, hq, hj, hqb⟩ := zH (a := a) (m := m) (by omega) he
   have hbj := hj O
   rw [hst.symm] at hbj
   have hmore := oQ hw
   obtain ⟨x1, hx1, hmq⟩ := hmore
   rw [hbj] at hx1
   injection hx1 with hx1
   subst hx1
   rw [he]
   dsimp only
   have es : slc s 0 (endB s).1 = some (s.take e) := by rw [hev]; unfold slc; rw [aB (by omega)]; simp
   have ed : slc s (endB s).1 (s.length : Int) = some (s.drop e) := by rw [hev]; exact o5 he2
   rw [show ((0 : Int) == 3) = false from rfl, show ((0 : Int) != 0) = false from rfl, aDd, aDd, es, aEo, hq, aEo, ed, aEo]
   have hdl : (s.drop e).length + 1 <= b.length := by simp; omega
   by_cases hq0 : q.2.2 = 0
   ·have e1 : (q.2.2 == (0 : Int)) = true := by simp [hq0]
    have e2 : (q.2.2 != (0 : Int)) = false := by simp [hq0]
    obtain ⟨hbody, hok⟩ := hqb hq0
    have hinfo : (bif (q.2.2 == (0 : Int)) then (bif a then true else (decide (q.1.Start.Code ≥ (200 : Int)))) else false) = !zD q.1.Start := by
     rw [e1, aDc]
     have hcode := hok.code
     unfold zD
     cases a with
     | true =>
      have hc : q.1.Start.Code = 0 := by simpa using hcode
      rw [hc]; rfl
     | false =>
      have hc : q.1.Start.Code ≠ 0 := by simpa using hcode
      rw [show (q.1.Start.Code != (0 : Int)) = true by simpa using hc, aDc, aDd]
      cases hd : decide (q.1.Start.Code < 200) with
      | true => have := of_decide_eq_true hd; exact decide_eq_false (by omega)
      | false => have := of_decide_eq_false hd; exact decide_eq_true (by omega)
    rw [hinfo]
    have hR : iP a m (s.drop e) O q = bif zD q.1.Start then (true, outW a m (s.drop e) O) else (true, inW a m (s.drop e) q.1 q.2.1 aK O) := by unfold iP; rw [e2]; rfl
    rw [hR] at hbj hmq
    cases hi : zD q.1.Start with
    | true =>
     rw [hi] at hbj hmq
     obtain ⟨g1, g2⟩ := hmq.1 rfl
     rw [cU hbj, hq0]
     exact ih (s.drop e) O k (by show 2 * (s.drop e).length + 0 <= n; omega) g1
    | false =>
     rw [hi] at hbj hmq
     obtain ⟨g1, g2⟩ := hmq.1 rfl
     rw [aDd] at hbj
     rw [cU hbj, hq0, aEr, aDc, aDc]
     generalize hx : s.drop e = x at *
     have hcn := g1.cnt
     have hcn : O.length + (2 * x.length + 1) <= 1000000 := hcn
     obtain ⟨x2, hx2, hmq2⟩ := oQ g1
     replace hx2 : wire_reading_more (inW a m x q.1 q.2.1 aK O) = some x2 := hx2
     -- the four kinds of a body
     have done : ∀ (x' : Bytes) (h : S_Message) (k' : Int), wire_reading_more (inW a m x q.1 q.2.1 aK O) = some (true, outW a m x' (O ++ [h])) ->
       ∃ t r, loopO (intarsiaref10_All_b1 a m) (T0 (O ++ [h]) x' k' 0) = some t /\ loopO wire_Feed_b1 (inW a m x q.1 q.2.1 aK O) = some (r, t.Out, 0) /\ Fin a m t r := fun x' h k' hm => by
      rw [hm] at hx2
      injection hx2 with hx2
      subst hx2
      obtain ⟨g3, g4⟩ := hmq2.1 rfl
      rw [cU (show g6 (inW a m x q.1 q.2.1 aK O) = _ from hm)]
      have hm1 : mu (inW a m x q.1 q.2.1 aK O) = 2 * x.length + 1 := rfl
      rw [aDd, hm1] at g4
      have hm2 : mu (outW a m x' (O ++ [h])) = 2 * x'.length := rfl
      have g4 : 2 * x'.length < 2 * x.length + 1 := g4
      exact ih x' (O ++ [h]) k' (by rw [hm2]; omega) g3
     have wait : ∀ (h : S_Message) (bd : S_Body) (c : S_Chunked), wire_reading_more (inW a m x q.1 q.2.1 aK O) = some (false, inW a m [] h bd c O) ->
       ∃ t r, loopO (intarsiaref10_All_b1 a m) (S_intarsiaref10_T.mk O [] true h bd.Kind 0) = some t /\ loopO wire_Feed_b1 (inW a m x q.1 q.2.1 aK O) = some (r, t.Out, 0) /\ Fin a m t r := fun h bd c hm =>
      ⟨_, (inW a m [] h bd c []).Reader, oZ _ rfl, by rw [cU (show g6 (inW a m x q.1 q.2.1 aK O) = _ from hm)]; rfl, .inn ..⟩
     have fails : ∀ (i : Bool) (k' e' : Int), e' ≠ 0 -> wire_reading_more (inW a m x q.1 q.2.1 aK O) = some (false, badW a m e' O) ->
       ∃ t r, loopO (intarsiaref10_All_b1 a m) (S_intarsiaref10_T.mk O x i bK k' e') = some t /\ loopO wire_Feed_b1 (inW a m x q.1 q.2.1 aK O) = some (r, t.Out, 0) /\ Fin a m t r := fun i k' e' hne hm =>
      ⟨_, (badW a m e' []).Reader, oZ _ (by show (bif (e' == (0 : Int)) then _ else false) = false; rw [show (e' == (0 : Int)) = false by simpa using hne]; rfl), by rw [cU (show g6 (inW a m x q.1 q.2.1 aK O) = _ from hm)]; rfl, .bad _ _ _ _ _ hne⟩
     have hpm : ∀ y : Bytes, oM q.1 y = S_Message.mk q.1.Start q.1.Fields y := fun y => by unfold oM; rw [hbody]; rfl
     rcases hok.kind with h | ⟨z, hz0, hz1, h⟩ | h | h
     ·rw [h] at done ⊢
      have hm := mC (A := a) (M := m) (b := x) (h := q.1) (c := aK) (O := O) (by omega)
      have e3 : slc x (0 : Int) (x.length : Int) = some x := oV [] x
      have hb : intarsiaref10_body (T0 O x k 0) q.1 (B 0 0) = some (T0 (O ++ [q.1]) x 0 0) := by
       show ((app 104 O ([q.1] : List S_Message)).bind fun x7 => (slc x (0 : Int) (x.length : Int)).bind fun x8 => some (S_intarsiaref10_T.mk x7 x8 false bK 0 0)) = _
       rw [sH q.1 (by omega), aEo, e3]; rfl
      rw [hb]
      exact done x q.1 0 hm
     ·rw [h] at done wait ⊢
      obtain ⟨nz, rfl⟩ : ∃ nz : Nat, z = (nz : Int) := ⟨z.toNat, by omega⟩
      have hm := mD (A := a) (M := m) (b := x) (h := q.1) (z := (nz : Int)) (c := aK) (O := O) nz (by rw [hbody]; simp) hz1 (by show x.length <= 50000; omega) (by omega)
      by_cases hd : nz <= x.length
      ·rw [decide_eq_true hd, aDc, hpm] at hm
       have e3 : slc x 0 ((nz : Nat) : Int) = some (x.take nz) := by unfold slc; rw [aB (by omega)]; simp
       have hb : intarsiaref10_body (T0 O x k 0) q.1 (B 1 (nz : Int)) = some (T0 (O ++ [S_Message.mk q.1.Start q.1.Fields (x.take nz)]) (x.drop nz) 1 0) := by
        show (bif (decide ((x.length : Int) ≥ (nz : Int))) then (slc x 0 ((nz : Nat) : Int)).bind fun x1 => ((app 104 O ([(S_Message.mk q.1.Start q.1.Fields x1)] : List S_Message)).bind fun x2 => (slc x ((nz : Nat) : Int) (x.length : Int)).bind fun x3 => some (S_intarsiaref10_T.mk x2 x3 false bK 1 0)) else _) = _
        rw [decide_eq_true (show (x.length : Int) ≥ (nz : Int) by omega), aDc, e3, aEo, sH _ (by omega), aEo, o5 hd]; rfl
       rw [hb]
       exact done (x.drop nz) _ 1 hm
      ·rw [decide_eq_false hd, aDd, hpm] at hm
       have hb : intarsiaref10_body (T0 O x k 0) q.1 (B 1 (nz : Int)) = some (S_intarsiaref10_T.mk O [] true (S_Message.mk q.1.Start q.1.Fields x) 1 0) := by
        show (bif (decide ((x.length : Int) ≥ (nz : Int))) then _ else some (S_intarsiaref10_T.mk O ([] : Bytes) true (S_Message.mk q.1.Start q.1.Fields x) 1 0)) = _
        rw [decide_eq_false (show ¬ (x.length : Int) ≥ (nz : Int) by omega), aDd]
       rw [hb]
       exact wait _ (B 1 (nz : Int)) _ hm
     ·rw [h] at done wait fails ⊢
      have hm := jN (A := a) (M := m) (b := x) (h := q.1) (c := aK) (O := O) kP (by rw [hbody]; rfl) (by omega) (by omega)
      have hf : intarsiaref10_body (T0 O x k 0) q.1 (B 2 0) = ((cRun aK x).map toF).bind fun x4 => bif (x4.2.2.2 != (0 : Int)) then some (S_intarsiaref10_T.mk O x (x4.1.Stage != (4 : Int)) bK 2 x4.2.2.2) else
       bif (x4.1.Stage != (4 : Int)) then some (S_intarsiaref10_T.mk O ([] : Bytes) (x4.1.Stage != (4 : Int)) (S_Message.mk q.1.Start q.1.Fields x4.2.1) 2 x4.2.2.2) else
       (app 104 O ([(S_Message.mk q.1.Start q.1.Fields x4.2.1)] : List S_Message)).bind fun x5 => (slc x x4.2.2.1 (x.length : Int)).bind fun x6 => some (S_intarsiaref10_T.mk x5 x6 (x4.1.Stage != (4 : Int)) bK 2 x4.2.2.2) := by
       rw [<- sF (by omega)]; rfl
      rcases oO (c := aK) (b := x) kP (by omega) with ⟨e', hne, hr⟩ | ⟨r, hr, hro⟩
      ·rw [hr] at hm hf
       have eb : (e' != (0 : Int)) = true := by simpa using hne
       have hb : intarsiaref10_body (T0 O x k 0) q.1 (B 2 0) = some (S_intarsiaref10_T.mk O x true bK 2 e') := by
        rw [hf]
        show (bif (e' != (0 : Int)) then some (S_intarsiaref10_T.mk O x true bK 2 e') else _) = _
        rw [eb, aDc]
       rw [hb]
       exact fails true 2 e' hne hm
      ·rw [hr] at hm hf
       have htk := hro.took
       rw [Option.map_some, oN, hpm] at hm
       by_cases h4 : r.1.Stage = 4
       ·have e4 : (r.1.Stage != (4 : Int)) = false := by simp [h4]
        have e4' : (r.1.Stage == (4 : Int)) = true := by simp [h4]
        have hb : intarsiaref10_body (T0 O x k 0) q.1 (B 2 0) = some (T0 (O ++ [S_Message.mk q.1.Start q.1.Fields r.2.1]) (x.drop r.2.2) 2 0) := by
         rw [hf]
         show (bif (r.1.Stage != (4 : Int)) then _ else (app 104 O ([(S_Message.mk q.1.Start q.1.Fields r.2.1)] : List S_Message)).bind fun x5 => (slc x ((r.2.2 : Nat) : Int) (x.length : Int)).bind fun x6 => some (S_intarsiaref10_T.mk x5 x6 (r.1.Stage != (4 : Int)) bK 2 0)) = _
         rw [e4, aDd, sH _ (by omega), aEo, o5 htk]; rfl
        rw [hb]
        rw [e4', aDc] at hm
        exact done (x.drop r.2.2) _ 2 hm
       ·have e4 : (r.1.Stage != (4 : Int)) = true := by simp [h4]
        have e4' : (r.1.Stage == (4 : Int)) = false := by simp [h4]
        have hb : intarsiaref10_body (T0 O x k 0) q.1 (B 2 0) = some (S_intarsiaref10_T.mk O [] true (S_Message.mk q.1.Start q.1.Fields r.2.1) 2 0) := by
         rw [hf]
         show (bif (r.1.Stage != (4 : Int)) then some (S_intarsiaref10_T.mk O ([] : Bytes) (r.1.Stage != (4 : Int)) (S_Message.mk q.1.Start q.1.Fields r.2.1) 2 0) else _) = _
         rw [e4, aDc]
        rw [hb]
        rw [e4', aDd, hro.all h4, List.drop_length] at hm
        exact wait _ (B 2 0) _ hm
     ·rw [h] at wait fails ⊢
      have hm := oP (A := a) (M := m) (b := x) (h := q.1) (c := aK) (O := O) (by omega) (by rw [hbody]; simp)
      rw [hpm, hbody] at hm
      have hf : intarsiaref10_body (T0 O x k 0) q.1 (B 3 0) = bif (decide ((x.length : Int) > (20000 : Int))) then some (S_intarsiaref10_T.mk O x true bK 3 2) else some (S_intarsiaref10_T.mk O ([] : Bytes) true (S_Message.mk q.1.Start q.1.Fields x) 3 0) := rfl
      rw [hf]
      by_cases hd : x.length > 20000
      ·have e3 : decide (([] : Bytes).length + x.length > 20000) = true := decide_eq_true (by simpa using hd)
       rw [decide_eq_true (show (x.length : Int) > 20000 by omega), aDc]
       rw [e3, aDc] at hm
       exact fails true 3 2 (by decide) hm
      ·have e3 : decide (([] : Bytes).length + x.length > 20000) = false := decide_eq_false (by simpa using hd)
       rw [decide_eq_false (show ¬ (x.length : Int) > 20000 by omega), aDd]
       rw [e3, aDd] at hm
       exact wait _ (B 3 0) _ hm
   ·have e1 : (q.2.2 == (0 : Int)) = false := by simp [hq0]
    have e2 : (q.2.2 != (0 : Int)) = true := by simp [hq0]
    have hR : iP a m (s.drop e) O q = (false, badW a m q.2.2 O) := by unfold iP; rw [e2]; rfl
    rw [hR] at hbj
    rw [e1, aDd, aDd, cU hbj]
    exact ⟨_, (badW a m q.2.2 []).Reader, oZ _ (by show (bif (q.2.2 == (0 : Int)) then _ else false) = false; rw [e1]; rfl), rfl, .bad _ _ _ _ _ hq0⟩
  ·have hbj : begJ (outW a m s O) = some (false, outW a m s O) := by
    unfold begJ
    show (head_End s).bind _ = _
    rw [nG (by omega), h3]; rfl
   rw [h3, cU (hst.trans hbj)]
   exact ⟨_, (outW a m s []).Reader, rfl, rfl, .out ..⟩
  ·have hbj : begJ (outW a m s O) = some (false, badW a m 2 O) := by
    unfold begJ
    show (head_End s).bind _ = _
    rw [nG (by omega), h5, aEo]
    show (wire_reading_fail (outW a m s O) 2).bind _ = _
    rw [cR]; rfl
   rw [h5, cU (hst.trans hbj)]
   exact ⟨_, (badW a m 2 []).Reader, rfl, rfl, .bad _ _ _ _ _ (by decide)⟩
theorem Fin.bad_iff {a : Bool} {m : Bytes} {t : TT} {r : S_Reader} (h : Fin a m t r) : r.Bad = t.Bad := by cases h <;> rfl
theorem mQ (a0 : Bool) (a1 a2 : Bytes) : intarsialaw10_WireReads a0 a1 a2 = some true := by
 unfold intarsialaw10_WireReads
 rw [xZ (K := (20 : Int)) a1 20 rfl, aEo, xZ (K := (9000 : Int)) a2 9000 rfl, aEo]
 generalize a1.take 20 = m
 have hs : (a2.take 9000).length <= 9000 := by simp; omega
 generalize a2.take 9000 = s at hs
 show ((some (newR a0 m) : Option S_Reader).bind _) = some true
 rw [aEo]
 have hx := aBB a0 m
 obtain ⟨t, r, h1, h2, h3⟩ := aAD a0 m (mu (outW a0 m s [])) s [] 0 (Nat.le_refl _) (hx.wi rfl (by omega))
 have hfe : wire_Feed (newR a0 m) s = some (r, t.Out, 0) := (uA hx rfl (by omega)).trans h2
 obtain ⟨x, hx1, hx2⟩ := aBA (a := a0) (m := m) (s := s) hx (by omega)
 rw [hfe] at hx1
 injection hx1 with hx1
 subst hx1
 have hok : XOk a0 m r := hx2.ok
 have hall : intarsiaref10_All a0 m s = some t := h1
 have hlen : t.Out.length <= 1000000 := hx2.len
 have hsame : intarsiaref10_Same t.Out t.Out = some true := qL hlen hx2.rows
 have hbad := h3.bad_iff
 have hr := hok.right
 have hhead := hok.head.2.1
 have hfl : r.Head.Fields.length <= maxLen := by have := hhead.len; unfold maxLen; omega
 rw [hfe, aEo, hall, aEo]
 dsimp only
 have c1 : (((0 : Int) != (0 : Int))) = false := rfl
 have c2 : (r.Bad != t.Bad) = false := by rw [hbad]; simp
 have c3 : (!(r.Asks == a0)) = false := by rw [hok.asks.1]; simp
 have c4 : (!(r.Method == m)) = false := by rw [hok.asks.2]; simp
 rw [c1, bG (show (!false) = true from rfl), hsame, aEo, c2, c3, c4]
 simp only [aEp, aEr, aDd]
 rw [bG rfl, hr, aEo]
 simp only [aEp, aEr, aDd]
 rw [bG rfl, aAt, aEo]
 simp only [aEp, aDd]
 cases h3 with
 | bad O b i k e he =>
  rw [yR hr he, aEo]
  have ce : (e != (0 : Int)) = true := by simpa using he
  show (bif (e != (0 : Int)) then _ else _) = some true
  rw [ce, aDc]
  show ((intarsiaref10_LikeReader (badW a0 m e []).Reader (badW a0 m e []).Reader).bind _) = some true
  rw [vN hfl, aEo]
  show some (bif (bif true then (e == e) else false) then _ else false) = some true
  simp
 | out O b k =>
  have hc : wire_Close (outW a0 m b []).Reader = some ([], bif (!(b == ([] : Bytes))) then 3 else 0) := by
   unfold wire_Close
   rw [hr, aEo]
   show (bif (!(b == ([] : Bytes))) then some (([] : List S_Message), (3 : Int)) else some (([] : List S_Message), (0 : Int))) = _
   cases (!(b == ([] : Bytes))) <;> rfl
  rw [hc, aEo]
  have hl : intarsiaref10_Like bK bK = some true := fK (h := bK) hfl
  dsimp only [outW, T0]
  simp only [beq_self_eq_true, aEp, aDd, aEr, bne_self_eq_false]
  rw [bG rfl, hl, aEo]
  cases (b == ([] : Bytes)) <;> rfl
 | inn O h bd c =>
  have hlike : intarsiaref10_Like h h = some true := fK hfl
  have hc : wire_Close (inW a0 m [] h bd c []).Reader = some (bif bd.Kind == (3 : Int) then ([h], 0) else ([], 3)) := by
   unfold wire_Close
   rw [hr, aEo]
   show (bif (bd.Kind == (3 : Int)) then some ([h], (0 : Int)) else some (([] : List S_Message), (3 : Int))) = _
   cases (bd.Kind == (3 : Int)) <;> rfl
  rw [hc, aEo]
  dsimp only [inW]
  simp only [beq_self_eq_true, aEp, aDd, aEr, bne_self_eq_false]
  rw [bG rfl, hlike, aEo]
  cases hk : (bd.Kind == (3 : Int)) with
  | true =>
   have hone : intarsiaref10_Same [h] [h] = some true := qL (by simp) (fun x hx => by rw [List.mem_singleton] at hx; subst hx; exact hhead)
   simp only [aDc, aDd, aEp, beq_self_eq_true]
   rw [bG rfl, hone]; rfl
  | false => rfl
end Go.Proofs.YtdnjgojkpfbimaaGreatDoor
