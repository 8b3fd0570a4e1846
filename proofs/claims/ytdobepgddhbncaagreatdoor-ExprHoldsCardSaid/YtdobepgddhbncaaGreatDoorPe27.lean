/-
  Plain laws, Expr 27: how large an argument may be.
-/
import Derived.Test.YtdobepgddhbncaaGreatDoorPe12
import Derived.Test.YtdobepgddhbncaaGreatDoorPm29
open _root_.Option renaming bind_some -> aOa
open _root_.List renaming length_cons -> aOb
open _root_.List renaming length_append -> aOc
open _root_.List renaming mem_cons_self -> aOd
open _root_.List renaming mem_cons_of_mem -> aOe
open _root_.List renaming getElem?_eq_getElem -> aOf
open _root_.Nat renaming le_refl -> aOg
open _root_.List renaming length_singleton -> aOh
open _root_.List renaming mem_of_getElem? -> aOi
open _root_.Nat renaming zero_le -> aOj
open _root_.Bool renaming and_eq_true -> aOk
open _root_.List renaming length_drop -> aOl
open _root_.Bool renaming true_and -> aOm
open _root_.Bool renaming not_true -> aOn
open _root_.List renaming take_succ_cons -> aOo
open _root_.List renaming drop_zero -> aOp
open _root_.List renaming length_take -> aOq
open _root_.Bool renaming eq_iff_iff -> aOr
open _root_.List renaming drop_eq_getElem_cons -> aOs
open _root_.List renaming cons_append -> aOt
open _root_.Int renaming add_zero -> aOu
open _root_.Bool renaming not_eq_true -> aOv
open _root_.List renaming drop_succ_cons -> aOw
open _root_.List renaming append_nil -> aOx
open _root_.List renaming any_eq_false -> aOy
namespace Go.Proofs.YtdobepgddhbncaaGreatDoor
open Go Go.Pm
set_option linter.unusedSimpArgs false
set_option linter.unusedVariables false
def gF (w : aA) : Bool := w == ([61, 61] : aA) || w == ([33, 61] : aA) || w == ([60, 61] : aA) || w == ([62, 61] : aA) || w == ([60] : aA) || w == ([62] : aA)
theorem aC6 (w : aA) : d3 w = some (gF w) := by
  unfold d3 gF
  cases w == ([61, 61] : aA) <;> cases w == ([33, 61] : aA) <;> cases w == ([60, 61] : aA) <;> cases w == ([62, 61] : aA) <;> cases w == ([60] : aA) <;> rfl
def aJ5 (s : aA) (bad : Bool) : aA × aC := match nxt s with
  | some (w, s') => if gF w = true then (w, aC.mk s' bad) else ([], aC.mk (skip s) bad)
  | none => ([], aC.mk (skip s) bad)
theorem aC7 {s p : aA} {bad : Bool} (h : aW (skip s) p = false) : a7 (aC.mk s bad) p = some (false, aC.mk (skip s) bad) := by
  rw [aGD]
  unfold eatB eatR cutP
  rw [h]; rfl
theorem aEb {s p t : aA} {bad : Bool} (h : skip s = p ++ t) : a7 (aC.mk s bad) p = some (true, aC.mk t bad) := by
  rw [aGD]
  have : aW (skip s) p = true := by rw [h]; exact List.isPrefixOf_iff_prefix.2 ⟨t, rfl⟩
  unfold eatB eatR cutP
  rw [this]
  simp only [aNA]
  rw [h, List.drop_left' rfl]
def sgns : List aA := [([61, 61] : aA), ([33, 61] : aA), ([60, 61] : aA), ([62, 61] : aA), ([60] : aA), ([62] : aA)]
theorem aGY {s g : aA} {bad : Bool} (k : Nat) (hg : sgns[k]? = some g) (hk : k < 6) : fL sgns ((k : Int), aC.mk s bad) = bif aW (skip s) g then some (.inr (g, aC.mk ((skip s).drop g.length) bad)) else some (.inl (((k + 1 : Nat) : Int), aC.mk (skip s) bad)) := by
  unfold fL
  have hlen : k < sgns.length := aP hg
  simp only [aZ hlen, aNA, bZ hg, aOa, aGD]
  unfold eatB eatR cutP
  rw [bN hlen (by decide)]
  cases aW (skip s) g <;> rfl
theorem aGZ {s : aA} {bad : Bool} : ∀ (m k : Nat) (s0 : aA), k + m = 6 -> skip s0 = skip s ->
    aQ (fL sgns) ((k : Int), aC.mk s0 bad) = some (match (sgns.drop k).find? (fun g => aW (skip s) g) with
      | some g => (g, aC.mk ((skip s).drop g.length) bad)
      | none => ([], aC.mk (if m = 0 then s0 else skip s) bad)) := by
  intro m
  induction m with
  | zero =>
    intro k s0 hk hs
    have : k = 6 := by omega
    subst this
    rw [aR]
    rfl
  | succ m ih =>
    intro k s0 hk hs
    have hlt : k < sgns.length := by show k < 6; omega
    have hg := aOf hlt
    have hd := aOs hlt
    generalize sgns[k] = g at hg hd
    rw [aR, aGY k hg (by omega), hd, hs]
    cases hb : aW (skip s) g with
    | true => rw [List.find?_cons_of_pos hb]; rfl
    | false =>
      rw [List.find?_cons_of_neg (by rw [hb]; simp), aNB]
      show aQ _ (((k + 1 : Nat) : Int), aC.mk (skip s) bad) = _
      rw [ih (k + 1) (skip s) (by omega) (vN s)]
      congr 1
      split
      · rfl
      · congr 2
        split <;> rfl
theorem aG0 (u : aA) (hu : ∀ c t, u = c :: t -> blk c = false) : sgns.find? (fun g => aW u g) = match nxt u with
    | some (w, _) => if gF w = true then some w else none
    | none => none := by
  have hsk : ∀ c t, u = c :: t -> skip u = c :: t := fun c t h => by rw [h, vM, hu c t h]; rfl
  cases hux : u with
  | nil => rfl
  | cons c t =>
    have hs := hsk c t hux
    rw [hux] at hs
    rw [pT hs]
    have hwn := kT c t
    -- whether one of them stands first
    have two : ∀ (d : UInt8), aW (c :: t) [d, 61] = (c == d && t.head? == some 61) := fun d => by
      rw [kQ, gE, aOw, aOp, pre1]
    unfold sgns
    simp only [List.find?_cons, List.find?_nil, two, gE]
    by_cases hop : sgnB c = true
    · -- a sign, or a sole one of these
      have f : (c == 39) = false /\ (c == 36) = false /\ fP c = false /\ (c == 45) = false := by
        unfold sgnB at hop
        simp only [Bool.or_eq_true, beq_iff_eq] at hop
        rcases hop with ((h | h) | h) | h <;> subst h <;> exact ⟨rfl, rfl, rfl, rfl⟩
      rw [f.1, aNB, oY (by rw [gE]; exact f.2.1), f.2.2.1, f.2.2.2, hop, Bool.and_true] at hwn
      have hwn : fQ (c :: t) = bif (t.head? == some 61) then 2 else bif oneB c then 1 else 0 := hwn
      rw [hwn]
      cases ht : (t.head? == some 61) with
      | true =>
        obtain ⟨u, rfl⟩ : ∃ u, t = 61 :: u := by
          cases t with
          | nil => cases ht
          | cons y u => exact ⟨u, by have := eq_of_beq ht; injection this with this; rw [this]⟩
        simp only [Bool.and_true, aNA]
        unfold sgnB at hop
        simp only [Bool.or_eq_true, beq_iff_eq] at hop
        rcases hop with ((h | h) | h) | h <;> subst h <;> rfl
      | false =>
        simp only [Bool.and_false, aNB]
        unfold sgnB at hop
        simp only [Bool.or_eq_true, beq_iff_eq] at hop
        rcases hop with ((h | h) | h) | h <;> subst h <;> rfl
    · have hop : sgnB c = false := by cases hh : sgnB c with | false => rfl | true => exact absurd hh hop
      have f : (c == 61) = false /\ (c == 33) = false /\ (c == 60) = false /\ (c == 62) = false := by
        unfold sgnB at hop
        simp only [Bool.or_eq_false_iff] at hop
        exact ⟨hop.1.1.1, hop.1.1.2, hop.1.2, hop.2⟩
      simp only [f.1, f.2.1, f.2.2.1, f.2.2.2, Bool.false_and]
      by_cases h0 : fQ (c :: t) = 0
      · rw [if_pos h0]
      · rw [if_neg h0]
        obtain ⟨k, hk⟩ : ∃ k, fQ (c :: t) = k + 1 := ⟨fQ (c :: t) - 1, by omega⟩
        rw [hk, aOo]
        have : gF (c :: t.take k) = false := by
          unfold gF
          have g : ∀ (d : UInt8) (r : aA), (c == d) = false -> ((c :: t.take k) == (d :: r)) = false := fun d r h => by
            show ((c == d) && _) = false
            rw [h]; rfl
          rw [g 61 _ f.1, g 33 _ f.2.1, g 60 _ f.2.2.1, g 62 _ f.2.2.2, g 60 _ f.2.2.1, g 62 _ f.2.2.2]; rfl
        dsimp only
        rw [this]; rfl
theorem aBT {s : aA} {bad : Bool} : jA (aC.mk s bad) = some (aJ5 s bad) := by
  unfold jA
  rw [show oL = some sgns from rfl, aOa]
  have h := aGZ (s := s) (bad := bad) 6 0 s rfl rfl
  rw [show (0 : Int) = ((0 : Nat) : Int) from rfl, h, aOp, aG0 (skip s) (fun c t hc => yZ hc), xR]
  unfold aJ5
  cases hn : nxt s with
  | none => rfl
  | some x =>
    obtain ⟨w, s'⟩ := x
    dsimp only
    by_cases hw : gF w = true
    · rw [if_pos hw, if_pos hw]
      obtain ⟨_, _, h1, _⟩ := gN hn
      dsimp only
      rw [h1, List.drop_left' rfl]
    · rw [if_neg hw, if_neg hw]; rfl
theorem aFX {d : UInt8} (hd : d = 40 ∨ d = 41 ∨ d = 38 ∨ d = 124) (t : aA) : fQ (d :: t) = 1 /\ blk d = false := by
  rw [kT, oY (by rw [gE]; rcases hd with rfl | rfl | rfl | rfl <;> rfl)]
  rcases hd with rfl | rfl | rfl | rfl <;> exact ⟨by cases (t.head? == some 61) <;> rfl, rfl⟩
theorem aBU {d : UInt8} (hd : d = 40 ∨ d = 41 ∨ d = 38 ∨ d = 124) (s : aA) (bad : Bool) :
    (∃ s', nxt s = some ([d], s') /\ a7 (aC.mk s bad) [d] = some (true, aC.mk s' bad)) ∨
    ((∀ s', nxt s ≠ some ([d], s')) /\ a7 (aC.mk s bad) [d] = some (false, aC.mk (skip s) bad)) := by
  cases hs : aW (skip s) [d] with
  | true =>
    obtain ⟨t, ht⟩ := mI hs
    refine .inl ⟨t, ?_, aEb ht⟩
    rw [pT ht, (aFX hd t).1]; rfl
  | false =>
    refine .inr ⟨fun s' h => ?_, aC7 hs⟩
    obtain ⟨_, _, h1, _⟩ := gN h
    rw [h1] at hs
    rw [show aW ([d] ++ s') [d] = true from List.isPrefixOf_iff_prefix.2 ⟨s', rfl⟩] at hs
    cases hs
theorem aC8 (t : aA) : fQ (33 :: t) = if t.head? = some 61 then 2 else 1 := by
  rw [kT, oY (by rw [gE]; rfl)]
  show (bif (t.head? == some 61) && true then 2 else 1) = _
  by_cases h : t.head? = some 61
  · rw [if_pos h, h]; rfl
  · rw [if_neg h]
    have : (t.head? == some 61) = false := by simpa using h
    rw [this]; rfl
theorem aJ6 (s : aA) (bad : Bool) :
    (∃ s', nxt s = some ([33], s') /\ a7 (aC.mk s bad) [33] = some (true, aC.mk s' bad)) ∨
    (∃ s' t, nxt s = some ([33, 61], s') /\ s' = t /\ a7 (aC.mk s bad) [33] = some (true, aC.mk (61 :: t) bad) /\ t.length < s.length) ∨
    ((∀ s', nxt s ≠ some ([33], s')) /\ (∀ s', nxt s ≠ some ([33, 61], s')) /\ a7 (aC.mk s bad) [33] = some (false, aC.mk (skip s) bad)) := by
  cases hs : aW (skip s) [33] with
  | true =>
    obtain ⟨t, ht⟩ := mI hs
    by_cases h61 : t.head? = some 61
    · obtain ⟨u, rfl⟩ : ∃ u, t = 61 :: u := by
        cases t with
        | nil => cases h61
        | cons y u => exact ⟨u, by injection h61 with h61; rw [h61]⟩
      refine .inr (.inl ⟨u, u, ?_, rfl, aEb ht, ?_⟩)
      · rw [pT ht, aC8, if_pos h61]; rfl
      · have := qX s
        rw [ht, aOb, aOb] at this; omega
    · refine .inl ⟨t, ?_, aEb ht⟩
      rw [pT ht, aC8, if_neg h61]; rfl
  | false =>
    refine .inr (.inr ⟨fun s' h => ?_, fun s' h => ?_, aC7 hs⟩)
    · obtain ⟨_, _, h1, _⟩ := gN h
      rw [h1, show aW ([33] ++ s') [33] = true from List.isPrefixOf_iff_prefix.2 ⟨s', rfl⟩] at hs
      cases hs
    · obtain ⟨_, _, h1, _⟩ := gN h
      rw [h1, show aW ([33, 61] ++ s') [33] = true from List.isPrefixOf_iff_prefix.2 ⟨61 :: s', rfl⟩] at hs
      cases hs
abbrev Res := Option (aB × List aA)
def pOne (any : List aA -> Res) : Nat -> List aA -> Res
  | 0, _ => none
  | _ + 1, [] => none
  | m + 1, w :: l => if w = [33] then (pOne any m l).map (fun p => (aB.mk 4 0 [] [] [p.1], p.2))
    else if w = [40] then (match any l with
      | some (x, c :: r) => if c = [41] then some (x, r) else none
      | _ => none)
    else if (dS w).Kind = 0 then none else (match l with
      | [] => some (dS w, [])
      | g :: l2 => if gF g = true then (match l2 with
        | [] => none
        | w2 :: r => if (dS w2).Kind = 0 then none else some (aB.mk 7 0 [] g [dS w, dS w2], r)) else some (dS w, g :: l2))
theorem mJ (any : List aA -> Res) (m : Nat) (w : aA) (l : List aA) : pOne any (m + 1) (w :: l) = if w = [33] then (pOne any m l).map (fun p => (aB.mk 4 0 [] [] [p.1], p.2))
    else if w = [40] then (match any l with
      | some (x, c :: r) => if c = [41] then some (x, r) else none
      | _ => none)
    else if (dS w).Kind = 0 then none else (match l with
      | [] => some (dS w, [])
      | g :: l2 => if gF g = true then (match l2 with
        | [] => none
        | w2 :: r => if (dS w2).Kind = 0 then none else some (aB.mk 7 0 [] g [dS w, dS w2], r)) else some (dS w, g :: l2)) := by rw [pOne.eq_def]
def uA (one : List aA -> Res) (by_ : aA) : Nat -> List aA -> Option (List aB × List aA)
  | 0, _ => none
  | _ + 1, [] => some ([], [])
  | m + 1, w :: l => if w = by_ then (match one l with
      | none => none
      | some (x, r) => (uA one by_ m r).map fun p => (x :: p.1, p.2)) else some ([], w :: l)
def aBV (kind : Int) (x : aB) (xs : List aB) : aB := bif xs.isEmpty then x else aB.mk kind 0 [] [] (x :: xs)
def pRow (one : List aA -> Res) (kind : Int) (by_ : aA) (m : Nat) (l : List aA) : Res := match one l with
  | none => none
  | some (x, r) => match uA one by_ m r with
    | none => none
    | some (xs, r') => some (aBV kind x xs, r')
def pAny : Nat -> List aA -> Res
  | 0 => fun _ => none
  | n + 1 => fun l => pRow (fun l => pRow (pOne (pAny n) (n + 1)) 5 [38] (n + 1) l) 6 [124] (n + 1) l
def Sim (o : Res) (ok : Bool) (len : Nat) (res : Option (aB × aC)) : Prop := ∃ x st, res = some (x, st) /\ match o with
  | none => st = aC.mk [] true
  | some (y, r) => x = y /\ st.bad = false /\ lexW st.s = (r, ok) /\ st.s.length < len
theorem y9 {d : UInt8} (bad : Bool) : a7 (aC.mk [] bad) [d] = some (false, aC.mk [] bad) := aC7 (s := []) rfl
theorem aG1 (A : aC -> Option (aB × aC)) (M : Nat) {t : aA} (ht : (61 :: t).length <= 100000) : eP A (M + 1) (aC.mk (61 :: t) false) = some (fT, aC.mk [] true) := by
  show fM A (eP A M) _ = _
  unfold fM
  have hsk : skip (61 :: t) = 61 :: t := by rw [vM]; rfl
  have e1 : a7 (aC.mk (61 :: t) false) [33] = some (false, aC.mk (61 :: t) false) := by
    have := aC7 (s := 61 :: t) (p := [33]) (bad := false) (by rw [hsk, gE]; rfl)
    rw [hsk] at this; exact this
  have e2 : a7 (aC.mk (61 :: t) false) [40] = some (false, aC.mk (61 :: t) false) := by
    have := aC7 (s := 61 :: t) (p := [40]) (bad := false) (by rw [hsk, gE]; rfl)
    rw [hsk] at this; exact this
  have e3 : simT (61 :: t) false = (fT, aC.mk [] true) := by
    unfold simT
    rw [pT hsk]
    by_cases h0 : fQ (61 :: t) = 0
    · rw [if_pos h0]
    · rw [if_neg h0]
      obtain ⟨k, hk⟩ : ∃ k, fQ (61 :: t) = k + 1 := ⟨fQ (61 :: t) - 1, by omega⟩
      rw [hk, aOo]
      dsimp only
      rw [sM rfl rfl rfl rfl]; rfl
  rw [aNB, e1, aOa, aNB, e2, aOa, aNB, y8 ht, e3, aOa, aBT, aOa]; rfl
theorem aJ7 {A : aC -> Option (aB × aC)} {P : List aA -> Res} {N : Nat} (hN : N <= 100000)
    (hA : ∀ s, s.length < N -> Sim (P (lexW s).1) (lexW s).2 s.length (A (aC.mk s false))) :
    ∀ (m M : Nat) (s : aA), s.length <= N -> s.length < m -> s.length < M -> Sim (pOne P m (lexW s).1) (lexW s).2 s.length (eP A M (aC.mk s false)) := by
  intro m
  induction m with
  | zero => intro M s _ h _; omega
  | succ m ih =>
    intro M s hs hm hM
    obtain ⟨M, rfl⟩ : ∃ M', M = M' + 1 := ⟨M - 1, by omega⟩
    show Sim _ _ _ (fM A (eP A M) _)
    unfold fM
    rw [aNB]
    rcases aJ6 s false with ⟨s', hn, he⟩ | ⟨s', t, hn, rfl, he, hlt⟩ | ⟨hn1, hn2, he⟩
    · -- it is not
      obtain ⟨hl, _, _, hlen, _⟩ := gN hn
      rw [he, aOa, aNA]
      dsimp only
      obtain ⟨x, st, h1, h2⟩ := ih M s' (by omega) (by omega) (by omega)
      rw [h1, aOa, hl]
      dsimp only
      rw [mJ, if_pos rfl]
      cases hp : pOne P m (lexW s').1 with
      | none =>
        rw [hp] at h2
        exact ⟨_, _, rfl, h2⟩
      | some p =>
        rw [hp] at h2
        obtain ⟨y, r⟩ := p
        obtain ⟨rfl, h3, h4, h5⟩ := h2
        exact ⟨_, _, rfl, rfl, h3, h4, Nat.lt_trans h5 hlen⟩
    · -- '!=' where a part should begin
      obtain ⟨hl, _, _, hlen, _⟩ := gN hn
      have hM' : ∃ M', M = M' + 1 := ⟨M - 1, by omega⟩
      obtain ⟨M', rfl⟩ := hM'
      rw [he, aOa, aNA]
      dsimp only
      rw [aG1 A M' (by rw [aOb]; omega), aOa, hl]
      have : pOne P (m + 1) ([33, 61] :: (lexW s').1) = none := by
        rw [mJ, if_neg (by decide), if_neg (by decide), sM rfl rfl rfl rfl]; rfl
      rw [this]
      exact ⟨_, _, rfl, rfl⟩
    · rw [he, aOa, aNB]
      dsimp only
      have hsk := qX s
      rcases aBU (d := 40) (.inl rfl) (skip s) false with ⟨s', hn, he2⟩ | ⟨hn3, he2⟩
      · -- aBZ
        rw [xR] at hn
        obtain ⟨hl, _, _, hlen, _⟩ := gN hn
        rw [he2, aOa, aNA]
        dsimp only
        obtain ⟨x, st, h1, h2⟩ := hA s' (by omega)
        rw [h1, aOa, hl]
        have hp1 : pOne P (m + 1) ([40] :: (lexW s').1) = (match P (lexW s').1 with
            | some (x, c :: r) => if c = [41] then some (x, r) else none
            | _ => none) := by rw [mJ, if_neg (by decide), if_pos rfl]
        rw [hp1]
        cases hp : P (lexW s').1 with
        | none =>
          rw [hp] at h2
          dsimp only at h2 ⊢
          rw [h2, y9, aOa]
          exact ⟨_, _, rfl, rfl⟩
        | some p =>
          rw [hp] at h2
          obtain ⟨y, r⟩ := p
          obtain ⟨h3, h4, h5, h6⟩ := h2
          obtain ⟨s2, b2⟩ := st
          dsimp only at h4 h5 h6 ⊢
          subst h4 h3
          rcases aBU (d := 41) (.inr (.inl rfl)) s2 false with ⟨s3, hn4, he4⟩ | ⟨hn4, he4⟩
          · obtain ⟨hl4, _, _, hlen4, _⟩ := gN hn4
            rw [hl4] at h5
            injection h5 with h5 h7
            subst h5
            rw [he4, aOa]
            show Sim (if ([41] : aA) = [41] then some (x, (lexW s3).1) else none) _ _ _
            rw [if_pos rfl]
            exact ⟨_, _, rfl, rfl, rfl, by show lexW s3 = _; rw [<- h7], by show s3.length < _; omega⟩
          · rw [he4, aOa]
            have : (match r with
                | c :: r' => if c = [41] then some (x, r') else none
                | [] => none : Res) = none := by
              cases r with
              | nil => rfl
              | cons c r' =>
                dsimp only
                split
                · rename_i hc
                  subst hc
                  exfalso
                  cases hnx : nxt s2 with
                  | none => rw [nE hnx] at h5; cases h5
                  | some q =>
                    obtain ⟨w, s3⟩ := q
                    obtain ⟨hl5, _⟩ := gN hnx
                    rw [hl5] at h5
                    injection h5 with h5 _
                    injection h5 with h5 _
                    subst h5
                    exact hn4 s3 hnx
                · rfl
            cases r with
            | nil => exact ⟨_, _, rfl, rfl⟩
            | cons c r' =>
              dsimp only at this ⊢
              rw [this]
              exact ⟨_, _, rfl, rfl⟩
      · -- a simple part
        rw [vN] at he2
        rw [he2, aOa, aNB]
        dsimp only
        rw [y8 (by omega), aOa]
        unfold simT
        rw [xR]
        cases hn : nxt s with
        | none =>
          rw [nE hn]
          dsimp only
          rw [aBT, aOa]
          exact ⟨_, _, rfl, rfl⟩
        | some p =>
          obtain ⟨w, s'⟩ := p
          obtain ⟨hl, hw0, _, hlen, _⟩ := gN hn
          have hw33 : w ≠ [33] := fun e => hn1 s' (by rw [hn, e])
          have hw40 : w ≠ [40] := fun e => hn3 s' (by rw [xR, hn, e])
          rw [hl]
          dsimp only
          rw [mJ, if_neg hw33, if_neg hw40]
          by_cases hk : (dS w).Kind = 0
          · rw [if_pos hk, if_pos hk]
            dsimp only
            rw [aBT, aOa]
            exact ⟨_, _, rfl, rfl⟩
          · rw [if_neg hk, if_neg hk]
            dsimp only
            rw [aBT, aOa]
            unfold aJ5
            cases hn2' : nxt s' with
            | none =>
              rw [nE hn2']
              dsimp only
              refine ⟨_, _, rfl, rfl, rfl, ?_, by show (skip s').length < _; have := qX s'; omega⟩
              show lexW (skip s') = _
              rw [lL, nE hn2']
            | some q =>
              obtain ⟨g, s2⟩ := q
              obtain ⟨hl2, hg0, _, hlen2, _⟩ := gN hn2'
              rw [hl2]
              dsimp only
              by_cases hg : gF g = true
              · rw [if_pos hg, if_pos hg]
                dsimp only
                have : (g == ([] : aA)) = false := by cases g with | nil => exact absurd rfl hg0 | cons => rfl
                rw [this, aNB, y8 (by omega), aOa]
                unfold simT
                cases hn5 : nxt s2 with
                | none =>
                  rw [nE hn5]
                  exact ⟨_, _, rfl, rfl⟩
                | some q =>
                  obtain ⟨w2, s3⟩ := q
                  obtain ⟨hl5, _, _, hlen5, _⟩ := gN hn5
                  rw [hl5]
                  dsimp only
                  by_cases hk2 : (dS w2).Kind = 0
                  · rw [if_pos hk2, if_pos hk2]
                    exact ⟨_, _, rfl, rfl⟩
                  · rw [if_neg hk2, if_neg hk2]
                    exact ⟨_, _, rfl, rfl, rfl, rfl, by show s3.length < _; omega⟩
              · rw [if_neg hg, if_neg hg]
                refine ⟨_, _, rfl, rfl, rfl, ?_, by show (skip s').length < _; have := qX s'; omega⟩
                show lexW (skip s') = _
                rw [lL, hl2]
noncomputable def sN (one : aC -> Option (aB × aC)) (by_ : aA) (x : (List aB) × aC) : Option (((List aB) × aC) ⊕ ((List aB) × aC)) :=
  match x with
  | (s3, s4) =>
    (a7 s4 by_).bind fun x5 =>
    bif x5.1 then
      (one (x5.2)).bind fun x6 =>
      (app 72 s3 ([(x6.1)] : List aB)).bind fun x7 =>
      some (.inl (x7, (x6.2)))
    else
      some (.inr (s3, (x5.2)))
noncomputable def aEZ (one : aC -> Option (aB × aC)) (o0 : aC) (a1 : Int) (a2 : aA) : Option (aB × aC) :=
  (one o0).bind fun x1 =>
  (aQ (sN one a2) (([(x1.1)] : List aB), (x1.2)) : Option ((List aB) × aC)).bind fun j2 =>
  bif (((j2.1).length : Int) == (1 : Int)) then
    (idx (j2.1) (0 : Int)).bind fun x8 =>
    some (x8, (j2.2))
  else
    some ((aB.mk a1 (0 : Int) ([] : aA) ([] : aA) (j2.1)), (j2.2))
theorem aG2 (A : aC -> Option (aB × aC)) (o0 : aC) (a1 : Int) (a2 : aA) : dD A o0 a1 a2 = aEZ (mB A) o0 a1 a2 := rfl
theorem aG3 (A : aC -> Option (aB × aC)) (o0 : aC) (a1 : Int) (a2 : aA) : cX A o0 a1 a2 = aEZ (gS A) o0 a1 a2 := rfl
theorem aC9 {α β : Type} (o : Option (α × β)) : (o.bind fun x => some (x.1, x.2)) = o := by cases o <;> rfl
section
variable {one : aC -> Option (aB × aC)} {P : List aA -> Res} {N : Nat} (hN : N <= 100000) {d : UInt8} (hd : d = 40 ∨ d = 41 ∨ d = 38 ∨ d = 124)
  (h1 : ∀ s, s.length <= N -> Sim (P (lexW s).1) (lexW s).2 s.length (one (aC.mk s false)))
include hN hd h1
theorem aIJ : ∀ (m : Nat) (s : aA) (acc : List aB), s.length <= N -> s.length < m -> acc.length + s.length <= 200000 -> ∃ acc' st, aQ (sN one [d]) (acc, aC.mk s false) = some (acc', st) /\ match uA P [d] m (lexW s).1 with
    | none => st = aC.mk [] true /\ 1 <= acc'.length
    | some (xs, r) => acc' = acc ++ xs /\ st.bad = false /\ lexW st.s = (r, (lexW s).2) /\ st.s.length <= s.length := by
  intro m
  induction m with
  | zero => intro s acc _ h; omega
  | succ m ih =>
    intro s acc hs hm hacc
    rw [aR]
    rcases aBU hd s false with ⟨s', hn, he⟩ | ⟨hn, he⟩
    · obtain ⟨hl, _, _, hlen, _⟩ := gN hn
      obtain ⟨x, st, e1, e2⟩ := h1 s' (by omega)
      have hb : sN one [d] (acc, aC.mk s false) = some (.inl (acc ++ [x], st)) := by
        unfold sN
        dsimp only
        rw [he, aOa, aNA]
        dsimp only
        rw [e1, aOa, pQ (by simp; omega) (by omega)]; rfl
      rw [hb, hl]
      show ∃ acc' st', aQ (sN one [d]) (acc ++ [x], st) = _ /\ _
      have hp : uA P [d] (m + 1) ([d] :: (lexW s').1) = (match P (lexW s').1 with
        | none => none
        | some (x, r) => (uA P [d] m r).map fun p => (x :: p.1, p.2)) := by rw [uA, if_pos rfl]
      rw [hp]
      cases hq : P (lexW s').1 with
      | none =>
        rw [hq] at e2
        dsimp only at e2 ⊢
        rw [e2, aR]
        have : sN one [d] (acc ++ [x], aC.mk [] true) = some (.inr (acc ++ [x], aC.mk [] true)) := by
          unfold sN
          dsimp only
          rw [y9]; rfl
        rw [this]
        exact ⟨_, _, rfl, rfl, by simp⟩
      | some p =>
        rw [hq] at e2
        obtain ⟨y, r⟩ := p
        obtain ⟨q1, q2, q3, q4⟩ := e2
        obtain ⟨s2, b2⟩ := st
        dsimp only at q2 q3 q4 ⊢
        subst q1 q2
        obtain ⟨acc', st', g1, g2⟩ := ih s2 (acc ++ [x]) (by omega) (by omega) (by rw [aOc, aOh]; omega)
        refine ⟨acc', st', g1, ?_⟩
        rw [q3] at g2
        dsimp only at g2
        cases hw : uA P [d] m r with
        | none => rw [hw] at g2; exact g2
        | some p =>
          rw [hw] at g2
          obtain ⟨xs, r'⟩ := p
          dsimp only at g2 ⊢
          obtain ⟨g3, g4, g5, g6⟩ := g2
          exact ⟨by rw [g3]; simp, g4, g5, by omega⟩
    · have hb : sN one [d] (acc, aC.mk s false) = some (.inr (acc, aC.mk (skip s) false)) := by
        unfold sN
        dsimp only
        rw [he]; rfl
      rw [hb]
      refine ⟨_, _, rfl, ?_⟩
      have hsl := qX s
      cases hn2 : nxt s with
      | none =>
        rw [nE hn2]
        exact ⟨(aOx _).symm, rfl, by show lexW (skip s) = _; rw [lL, nE hn2], hsl⟩
      | some p =>
        obtain ⟨w, s'⟩ := p
        obtain ⟨hl, _, _, hlen, _⟩ := gN hn2
        rw [hl]
        have hw : w ≠ [d] := fun e => hn s' (by rw [hn2, e])
        rw [uA, if_neg hw]
        exact ⟨(aOx _).symm, rfl, by show lexW (skip s) = _; rw [lL, hl], hsl⟩
theorem aG4 (kind : Int) (m : Nat) (s : aA) (hs : s.length <= N) (hm : s.length < m) : Sim (pRow P kind [d] m (lexW s).1) (lexW s).2 s.length (aEZ one (aC.mk s false) kind [d]) := by
  obtain ⟨x, st, e1, e2⟩ := h1 s hs
  unfold aEZ pRow
  rw [e1, aOa]
  cases hq : P (lexW s).1 with
  | none =>
    rw [hq] at e2
    dsimp only at e2 ⊢
    rw [e2, aR]
    have : sN one [d] ([x], aC.mk [] true) = some (.inr ([x], aC.mk [] true)) := by
      unfold sN
      dsimp only
      rw [y9]; rfl
    rw [this]
    exact ⟨_, _, rfl, rfl⟩
  | some p =>
    rw [hq] at e2
    obtain ⟨y, r⟩ := p
    obtain ⟨q1, q2, q3, q4⟩ := e2
    obtain ⟨s2, b2⟩ := st
    dsimp only at q2 q3 q4 ⊢
    subst q1 q2
    obtain ⟨acc', st', g1, g2⟩ := aIJ hN hd h1 m s2 [x] (by omega) (by omega) (by rw [aOh]; omega)
    rw [g1, aOa]
    rw [q3] at g2
    dsimp only at g2 ⊢
    cases hw : uA P [d] m r with
    | none =>
      rw [hw] at g2
      obtain ⟨g3, g4⟩ := g2
      dsimp only
      subst g3
      cases acc' with
      | nil => simp at g4
      | cons a l => cases ((((a :: l).length : Nat) : Int) == (1 : Int)) <;> exact ⟨_, _, rfl, rfl⟩
    | some p =>
      rw [hw] at g2
      obtain ⟨xs, r'⟩ := p
      dsimp only at g2 ⊢
      obtain ⟨g3, g4, g5, g6⟩ := g2
      subst g3
      unfold aBV
      cases xs with
      | nil => exact ⟨_, _, rfl, rfl, g4, g5, by omega⟩
      | cons a l =>
        have : (((([x] ++ a :: l).length : Nat) : Int) == (1 : Int)) = false := by simp; omega
        rw [this]
        exact ⟨_, _, rfl, rfl, g4, g5, by omega⟩
end
theorem aJ8 : ∀ (n M : Nat) (s : aA), s.length <= 50000 -> s.length < n -> s.length < M -> Sim (pAny n (lexW s).1) (lexW s).2 s.length (gT M (aC.mk s false)) := by
  intro n
  induction n with
  | zero => intro M s _ h; omega
  | succ n ih =>
    intro M s hs hn hM
    obtain ⟨M, rfl⟩ : ∃ M', M = M' + 1 := ⟨M - 1, by omega⟩
    show Sim _ _ _ (iV (gT M) _)
    unfold iV
    rw [aC9, aG3]
    refine aG4 (N := s.length) (by omega) (d := 124) (.inr (.inr (.inr rfl))) (P := fun l => pRow (pOne (pAny n) (n + 1)) 5 [38] (n + 1) l) (fun s1 h1 => ?_) 6 (n + 1) s (aOg _) (by omega)
    unfold gS
    rw [aC9, aG2]
    refine aG4 (N := s.length) (by omega) (d := 38) (.inr (.inr (.inl rfl))) (P := pOne (pAny n) (n + 1)) (fun s2 h2 => ?_) 5 (n + 1) s1 h1 (by omega)
    exact aJ7 (N := s.length) (by omega) (fun s3 h3 => ih M s3 (by omega) (by omega) (by omega)) (n + 1) 1000000 s2 h2 (by omega) (by omega)
mutual
def sz : aB -> Nat
  | ⟨_, _, _, _, kids⟩ => 1 + szs kids
def szs : List aB -> Nat
  | [] => 0
  | x :: l => sz x + szs l
end
theorem aAx (x : aB) : sz x = 1 + szs x.Kids := by cases x; rw [sz]
theorem pU (x : aB) (l : List aB) : szs (x :: l) = sz x + szs l := by rw [szs]
theorem zA : szs [] = 0 := by rw [szs]
theorem uK (x : aB) : 1 <= sz x := by rw [aAx]; omega
theorem wK : ∀ (a b : List aB), szs (a ++ b) = szs a + szs b
  | [], b => by rw [zA]; simp
  | x :: a, b => by rw [aOt, pU, pU, wK a b]; omega
theorem rA : ∀ (l : List aB), l.length <= szs l
  | [] => by simp
  | x :: l => by have := rA l; have := uK x; rw [pU, aOb]; omega
theorem sO {x : aB} : ∀ {l : List aB}, x ∈ l -> sz x <= szs l
  | y :: l, h => by
    rw [pU]
    rcases List.mem_cons.1 h with rfl | h
    · omega
    · have := sO h; omega
theorem kid_lt {x k : aB} (h : k ∈ x.Kids) : sz k < sz x := by have := sO h; rw [aAx x]; omega
theorem aE0 {l : List aB} {i : Nat} (h : i < l.length) : szs (l.drop i) = sz l[i] + szs (l.drop (i + 1)) := by
  rw [aOs h, pU]
theorem aJv (x : aB) : pN x = some (decide (sz x <= 60)) := by
  unfold pN
  have := oT (body := lT) (fun y => decide (y.2.toNat + szs (y.1.drop y.2.toNat) <= 60)) (fun y => 61 - y.2.toNat) (fun y => ∃ i : Nat, y.2 = (i : Int) /\ i <= y.1.length /\ y.1.length <= 60) (fun y hy => ?_) ([x], 0) ⟨0, rfl, by simp, by simp⟩
  · rw [this]
    simp [pU, zA]
  · obtain ⟨l, i0⟩ := y
    obtain ⟨i, hi, hil, hl⟩ := hy
    dsimp only at hi hil hl ⊢
    subst hi
    rw [Int.toNat_natCast]
    rcases Nat.lt_or_ge i l.length with hlt | hge
    · have hx := aOf hlt
      have hs := aE0 hlt
      have hrest := rA (l.drop (i + 1))
      rw [aOl] at hrest
      generalize l[i] = q at hx hs
      have hq := aAx q
      have hql := rA q.Kids
      have hb : lT (l, (i : Int)) = bif decide ((q.Kids.length : Int) > (60 : Int) - (l.length : Int)) then some (.inr false) else (app 72 l q.Kids).bind fun x5 => some (.inl (x5, ((i + 1 : Nat) : Int))) := by
        unfold lT
        simp only [aZ hlt, aNA, bZ hx, aOa]
        rw [wrap_i64 (n := (60 : Int) - (l.length : Int)) (by omega) (by omega), bN hlt (by unfold maxLen; omega)]
      rw [hb]
      by_cases hk : (q.Kids.length : Int) > (60 : Int) - (l.length : Int)
      · refine .inr ?_
        rw [decide_eq_true hk, aNA, decide_eq_false (by omega)]
      · rw [decide_eq_false hk, aNB, pQ (by omega) (by omega), aOa]
        refine .inl ⟨_, rfl, ⟨i + 1, rfl, ?_, ?_⟩, ?_, ?_⟩
        · dsimp only; rw [aOc]; omega
        · dsimp only; rw [aOc]; omega
        · simp only [Int.toNat_natCast]; omega
        · simp only [Int.toNat_natCast]
          have e : szs ((l ++ q.Kids).drop (i + 1)) = szs (l.drop (i + 1)) + szs q.Kids := by rw [List.drop_append_of_le_length (by omega), wK]
          exact decide_eq_decide.2 (by rw [e, hs]; omega)
    · have : i = l.length := by omega
      subst this
      refine .inr ?_
      unfold lT
      dsimp only
      rw [cD, List.drop_length, zA, decide_eq_true (by omega)]; rfl
def mn61 (n : Nat) : Nat := if n <= 60 then n else 61
theorem aJ9 {l : List aB} {q : aB} (hl : l.length <= 60) (hk : q.Kids.length <= maxLen) : aQ (dO 60 q) (l, (0 : Int)) = some (l ++ q.Kids.take (61 - l.length)) := by
  have hf : ∀ (ks acc : List aB), acc.length <= 61 -> kN (ρ := List aB) (fun (a : List aB) k => .inl (bif decide ((a.length : Int) <= 60) then a ++ [k] else a)) (fun a => a) ks acc = acc ++ ks.take (61 - acc.length) := by
    intro ks
    induction ks with
    | nil => intro acc _; simp [kN]
    | cons k ks ih =>
      intro acc hacc
      rw [kO]
      by_cases h : (acc.length : Int) <= 60
      · rw [decide_eq_true h]
        show kN _ _ ks (acc ++ [k]) = _
        rw [ih (acc ++ [k]) (by simp; omega), aOc, aOh]
        obtain ⟨j, hj⟩ : ∃ j, 61 - acc.length = j + 1 := ⟨60 - acc.length, by omega⟩
        rw [hj, aOo, show 61 - (acc.length + 1) = j by omega]; simp
      · rw [decide_eq_false h]
        show kN _ _ ks acc = _
        rw [ih acc hacc, show 61 - acc.length = 0 by omega]; simp
  rw [<- hf q.Kids l (by omega)]
  refine mF (body := dO 60 q) q.Kids (fun i (a : List aB) => (a, (i : Int))) _ _ (fun _ a => a.length <= 61) (fun i a k hx ha => ?_) (fun a ha => ?_) l (by omega)
  · refine .inl ⟨_, rfl, ?_, ?_⟩
    · unfold dO
      simp only [aZ (aP hx), aNA, bZ hx, aOa]
      rw [bN (aP hx) hk]
      by_cases h : (a.length : Int) <= 60
      · rw [decide_eq_true h, aNA, aNA, pQ (by simp; omega) (by omega)]; rfl
      · rw [decide_eq_false h]; rfl
    · by_cases h : (a.length : Int) <= 60
      · rw [decide_eq_true h]; simp; omega
      · rw [decide_eq_false h]; exact ha
  · unfold dO
    simp only [cD, aNB]
inductive KOk : aB -> Prop
  | mk (x : aB) (h : x.Kids.length <= maxLen) (hk : ∀ k, k ∈ x.Kids -> KOk k) (ht : x.Text.length <= maxLen) : KOk x
theorem KOk.at_ {x : aB} (h : KOk x) : x.Kids.length <= maxLen /\ ∀ k, k ∈ x.Kids -> KOk k := by cases h with | mk _ h hk _ => exact ⟨h, hk⟩
theorem KOk.text {x : aB} (h : KOk x) : x.Text.length <= maxLen := by cases h with | mk _ h hk ht => exact ht
theorem aEc {x : aB} (hx : KOk x) : d6 x 60 = some ((mn61 (sz x) : Nat) : Int) := by
  unfold d6
  -- what comes out: as many as there are
  have key : ∀ (m i : Nat) (l : List aB), 61 <= m + i -> i <= l.length -> l.length <= 61 -> (∀ q, q ∈ l -> KOk q) -> ∃ r, aQ (bL 60) (l, (i : Int)) = some r /\ r.length = mn61 (i + szs (l.drop i)) := by
    intro m
    induction m with
    | zero =>
      intro i l hm hi hl _
      have hi61 : i = 61 := by omega
      have hl61 : l.length = 61 := by omega
      refine ⟨l, ?_, ?_⟩
      · rw [aR]
        unfold bL
        dsimp only
        rw [hl61, hi61, show decide ((((61 : Nat)) : Int) < ((61 : Nat) : Int)) = false from cD 61]; rfl
      · unfold mn61; rw [if_neg (by omega)]; exact hl61
    | succ m ih =>
      intro i l hm hi hl hq1
      rw [aR]
      by_cases hlt : i < l.length
      · by_cases hl60 : l.length <= 60
        · have hx := aOf hlt
          have hmem := List.getElem_mem hlt
          have hs := aE0 hlt
          have hrest := rA (l.drop (i + 1))
          rw [aOl] at hrest
          generalize l[i] = q at hx hs hmem
          have hq := aAx q
          have hql := rA q.Kids
          have hqk := (hq1 q hmem).at_.1
          have hb : bL 60 (l, (i : Int)) = some (.inl (l ++ q.Kids.take (61 - l.length), ((i + 1 : Nat) : Int))) := by
            unfold bL
            have e : decide ((l.length : Int) <= (60 : Int)) = true := decide_eq_true (by omega)
            simp only [aZ hlt, e, aNA, bZ hx, aOa, aJ9 hl60 hqk]
            rw [bN hlt (by unfold maxLen; omega)]
          rw [hb]
          have hin := (hq1 q hmem).at_.2
          obtain ⟨r, h1, h2⟩ := ih (i + 1) (l ++ q.Kids.take (61 - l.length)) (by omega) (by rw [aOc]; omega) (by rw [aOc, aOq]; omega)
            (fun p hp => by
              rcases List.mem_append.1 hp with hp | hp
              · exact hq1 p hp
              · exact hin p (List.mem_of_mem_take hp))
          refine ⟨r, h1, ?_⟩
          rw [h2, List.drop_append_of_le_length (by omega), wK, hs]
          unfold mn61
          by_cases hfit : l.length + q.Kids.length <= 61
          · rw [List.take_of_length_le (by omega)]
            have : i + 1 + (szs (l.drop (i + 1)) + szs q.Kids) = i + (sz q + szs (l.drop (i + 1))) := by omega
            rw [this]
          · have h3 := rA (q.Kids.take (61 - l.length))
            rw [aOq] at h3
            rw [if_neg (by omega), if_neg (by omega)]
        · have hb : bL 60 (l, (i : Int)) = some (.inr l) := by
            unfold bL
            have e : decide ((l.length : Int) <= (60 : Int)) = false := decide_eq_false (by omega)
            simp only [aZ hlt, e, aNA, aNB]
          rw [hb]
          refine ⟨l, rfl, ?_⟩
          have h3 := rA (l.drop i)
          rw [aOl] at h3
          unfold mn61
          rw [if_neg (by omega)]; omega
      · have : i = l.length := by omega
        subst this
        have hb : bL 60 (l, ((l.length : Nat) : Int)) = some (.inr l) := by
          unfold bL
          simp only [cD, aNB]
        rw [hb]
        refine ⟨l, rfl, ?_⟩
        rw [List.drop_length, zA]
        unfold mn61
        by_cases h : l.length + 0 <= 60
        · rw [if_pos h]; omega
        · rw [if_neg h]; omega
  obtain ⟨r, h1, h2⟩ := key 61 0 [x] (by omega) (by simp) (by simp) (fun q hq => by rw [List.mem_singleton.1 hq]; exact hx)
  rw [show (0 : Int) = ((0 : Nat) : Int) from rfl, h1, aOa, h2, aOp, pU, zA]
  simp
def rowN (x : aB) : Int := bif x.Kind == 5 || x.Kind == 6 then 1 else 0
mutual
def dp : aB -> Int
  | ⟨k, _, _, _, kids⟩ => dps kids 0 + (bif k == 4 then 1 else 0)
def dps : List aB -> Int -> Int
  | [], a => a
  | x :: l, a => dps l (imax a (dp x + rowN x))
end
theorem aIK (x : aB) : dp x = dps x.Kids 0 + (bif x.Kind == 4 then 1 else 0) := by cases x; rw [dp]
theorem aBW (x : aB) (l : List aB) (a : Int) : dps (x :: l) a = dps l (imax a (dp x + rowN x)) := by rw [dps]
theorem aEd (x : aB) : 0 <= rowN x /\ rowN x <= 1 := by unfold rowN; cases (x.Kind == 5 || x.Kind == 6) <;> simp
theorem aKa {a b c : Int} (h1 : a <= c) (h2 : b <= c) : imax a b <= c := by unfold imax; split <;> omega
theorem aG5 {a b : Int} : a <= imax a b := by unfold imax; split <;> omega
theorem vO : ∀ (n : Nat) (x : aB), sz x <= n -> 0 <= dp x /\ dp x <= 2 * (sz x : Int) := by
  intro n
  induction n with
  | zero => intro x h; have := uK x; omega
  | succ n ih =>
    intro x h
    have hl : ∀ (l : List aB) (a c : Int), szs l <= n -> 0 <= a -> a <= c -> 2 * (szs l : Int) + 1 <= c -> 0 <= dps l a /\ dps l a <= c := by
      intro l
      induction l with
      | nil => intro a c _ h0 h1 _; rw [dps]; exact ⟨h0, h1⟩
      | cons k l ihl =>
        intro a c hs h0 h1 h2
        rw [pU] at hs h2
        have hk := ih k (by omega)
        have hr := aEd k
        rw [aBW]
        have hg := @aG5 a (dp k + rowN k)
        exact ihl _ c (by omega) (by omega) (aKa h1 (by omega)) (by omega)
    rw [aIK]
    have hs := aAx x
    have h1 := hl x.Kids 0 (2 * (szs x.Kids : Int) + 1) (by omega) (by omega) (by omega) (by omega)
    cases x.Kind == 4 <;> simp <;> omega
theorem row_eq (x : aB) : tB x = some (x.Kind == 5 || x.Kind == 6) := by
  unfold tB; cases x.Kind == 5 <;> rfl
theorem aE1 (x : aB) : bO x = some (x.Kind == 5 || x.Kind == 6) := by
  unfold bO; cases x.Kind == 5 <;> rfl
theorem aBX : ∀ (l : List aB) (a : Int), kN (ρ := Int) (fun (a : Int) k => .inl (imax a (dp k + rowN k))) (fun a => a) l a = dps l a
  | [], a => by rw [dps]; rfl
  | x :: l, a => by rw [kO, aBW]; exact aBX l _
theorem aKb : ∀ (n : Nat) (x : aB), sz x <= n -> sz x <= 100000 -> kC n x = some (dp x) := by
  intro n
  induction n with
  | zero => intro x h; have := uK x; omega
  | succ n ih =>
    intro x h hb
    have hs := aAx x
    have hkl := rA x.Kids
    show oR (kC n) x = _
    unfold oR
    have hloop : aQ (kB (kC n) x) ((0 : Int), (0 : Int)) = some (dps x.Kids 0) := by
      rw [<- aBX]
      refine mF (body := kB (kC n) x) x.Kids (fun i (a : Int) => (a, (i : Int))) _ _ (fun _ _ => True) (fun i a k hx _ => ?_) (fun a _ => ?_) 0 trivial
      · have hm := sO (aOi hx)
        have hd := vO _ k (aOg _)
        refine .inl ⟨_, rfl, ?_, trivial⟩
        unfold kB
        simp only [aZ (aP hx), aNA, bZ hx, aOa, ih k (by omega) (by omega), row_eq]
        rw [bN (aP hx) (by unfold maxLen; omega)]
        unfold rowN
        cases (k.Kind == 5 || k.Kind == 6) with
        | true => rw [aNA, aNA, wrap_i64 (by omega) (by omega)]
        | false => rw [aNB, aNB, aOu]
      · unfold kB
        simp only [cD, aNB]
    rw [hloop, aOa, aIK]
    have hd := vO _ x (aOg _)
    rw [aIK] at hd
    cases hk : x.Kind == 4 with
    | true =>
      rw [hk, aNA] at hd
      rw [aNA, aNA, wrap_i64 (by omega) (by omega)]
    | false => rw [aNB, aNB, aOu]
theorem aDa {x : aB} (h : sz x <= 100000) : sG x = some (dp x) := aKb 1000000 x (by omega) h
def NotOk (x : aB) : Prop := (x.Kind == 4) = true -> x.Kids ≠ []
inductive w9 : aB -> Prop
  | mk (x : aB) (h : NotOk x) (hk : ∀ k, k ∈ x.Kids -> w9 k) : w9 x
theorem w9.at_ {x : aB} (h : w9 x) : NotOk x /\ ∀ k, k ∈ x.Kids -> w9 k := by cases h with | mk _ h hk => exact ⟨h, hk⟩
theorem aDb (c : Int) (hc : 0 <= c) : ∀ (l : List aB) (a : Int), 0 <= a -> (∀ k, k ∈ l -> 0 <= dp k) -> dps l a + c = kN (ρ := Int) (fun (a : Int) k => .inl (imax a (dp k + rowN k + c))) (fun a => a) l (a + c)
  | [], a, _, _ => by rw [dps]; rfl
  | x :: l, a, h0, hk => by
    rw [kO, aBW]
    have h1 := hk x (aOd ..)
    have h2 := aEd x
    have hg := @aG5 a (dp x + rowN x)
    rw [aDb c hc l _ (by omega) (fun k h => hk k (aOe _ h))]
    show kN _ _ l _ = kN _ _ l _
    congr 1
    unfold imax
    split <;> split <;> omega
theorem xA {α : Type} (o : Option α) : (o.bind fun x => some x) = o := by cases o <;> rfl
theorem aG6 : ∀ (n : Nat) (x : aB), sz x <= n -> sz x <= 100000 -> w9 x -> c6 n x = some (dp x) := by
  intro n
  induction n with
  | zero => intro x h; have := uK x; omega
  | succ n ih =>
    intro x h hb hna
    obtain ⟨hno, hka⟩ := hna.at_
    have hs := aAx x
    have hkl := rA x.Kids
    show gH (c6 n) x = _
    unfold gH
    rw [xA]
    have hbody : ∀ (c : Int), (bif x.Kind == 4 then (1 : Int) else 0) = c -> aQ (dP (c6 n) x) ((0 : Int), (0 : Int)) = some (kN (ρ := Int) (fun (a : Int) k => .inl (imax a (dp k + rowN k + c))) (fun a => a) x.Kids 0) := by
      intro c hc
      refine mF (body := dP (c6 n) x) x.Kids (fun i (a : Int) => (a, (i : Int))) _ _ (fun _ _ => True) (fun i a k hx _ => ?_) (fun a _ => ?_) 0 trivial
      · have hmem := aOi hx
        have hm := sO hmem
        have hd := vO _ k (aOg _)
        refine .inl ⟨_, rfl, ?_, trivial⟩
        unfold dP
        simp only [aZ (aP hx), aNA, bZ hx, aOa, ih k (by omega) (by omega) (hka k hmem), aE1]
        rw [bN (aP hx) (by unfold maxLen; omega)]
        unfold rowN
        have fin : ∀ (v : Int) (i1 : Int), (bif decide (v > a) then (some (.inl (v, i1)) : Option ((Int × Int) ⊕ Int)) else some (.inl (a, i1))) = some (.inl (imax a v, i1)) := fun v i1 => by
          unfold imax
          by_cases h : v > a
          · rw [decide_eq_true h, if_pos h]; rfl
          · rw [decide_eq_false h, if_neg h]; rfl
        subst hc
        cases (k.Kind == 5 || k.Kind == 6) with
        | true =>
          simp only [aNA]
          rw [wrap_i64 (n := dp k + 1) (by omega) (by omega), wrap_i64 (n := dp k + 1 + 1) (by omega) (by omega)]
          cases x.Kind == 4 with
          | true => simp only [aNA]; exact fin _ _
          | false => simp only [aNB]; rw [aOu]; exact fin _ _
        | false =>
          simp only [aNB]
          rw [wrap_i64 (n := dp k + 1) (by omega) (by omega), aOu]
          cases x.Kind == 4 with
          | true => simp only [aNA]; exact fin _ _
          | false => simp only [aNB]; rw [aOu]; exact fin _ _
      · unfold dP
        simp only [cD, aNB]
    rw [hbody _ rfl, aIK]
    cases hk4 : x.Kind == 4 with
    | false =>
      rw [aNB, aOu, <- aBX]
      congr 2
      funext a k
      rw [aOu]
    | true =>
      rw [aNA, aDb 1 (by omega) x.Kids 0 (by omega) (fun k hk => (vO _ k (aOg _)).1)]
      have hne := hno hk4
      cases hkk : x.Kids with
      | nil => exact absurd hkk hne
      | cons k l =>
        rw [kO, kO]
        show some (kN _ _ l _) = some (kN _ _ l _)
        congr 2
        have h1 := (vO _ k (aOg _)).1
        have h2 := aEd k
        unfold imax
        split <;> split <;> omega
theorem aE2 {x : aB} (h : sz x <= 100000) (hn : w9 x) : jU x = some (dp x) := aG6 1000000 x (by omega) h hn
def kF (x : aB) : Bool := x.Kind == 1 || x.Kind == 2 || x.Kind == 3
def qB (x : aB) : Bool := x.Sign == ([] : aA) && x.Kids.isEmpty && (bif x.Kind == 1 then x.Text == ([] : aA) && decide (x.N ≥ -1099511627776) && decide (x.N <= 1099511627776)
  else bif x.Kind == 2 then x.N == 0 && !(x.Text.contains 39) else x.N == 0 && decide (refN x.Text > 0) && (refN x.Text == (x.Text.length : Int)))
def aDc (x : aB) : Bool := bif x.Kind == 7 then gF x.Sign && Nat.beq x.Kids.length 2 && x.Kids.all kF
  else bif x.Kind == 4 then x.Sign == ([] : aA) && Nat.beq x.Kids.length 1
  else bif x.Kind == 5 || x.Kind == 6 then x.Sign == ([] : aA) && Nat.ble 2 x.Kids.length else false
mutual
def wl : aB -> Bool
  | ⟨k, n, t, s, kids⟩ => bif kF ⟨k, n, t, s, kids⟩ then qB ⟨k, n, t, s, kids⟩ else n == 0 && (t == ([] : aA)) && wls kids && aDc ⟨k, n, t, s, kids⟩
def wls : List aB -> Bool
  | [] => true
  | x :: l => wl x && wls l
end
theorem aEe (x : aB) : wl x = bif kF x then qB x else x.N == 0 && (x.Text == ([] : aA)) && wls x.Kids && aDc x := by cases x; rw [wl]
theorem uS : ∀ (l : List aB), wls l = l.all wl
  | [] => by rw [wls]; rfl
  | x :: l => by rw [wls, uS l]; rfl
theorem zB (x : aB) : lU x = some (kF x) := by
  unfold lU kF
  cases x.Kind == 1 <;> cases x.Kind == 2 <;> rfl
theorem aA3 (x : aB) : d4 x = some (kF x) := by
  unfold d4 kF
  congr 1
  by_cases h1 : x.Kind = 1
  · rw [h1]; rfl
  · by_cases h2 : x.Kind = 2
    · rw [h2]; rfl
    · by_cases h3 : x.Kind = 3
      · rw [h3]; rfl
      · have e1 : (x.Kind == 1) = false := by simpa using h1
        have e2 : (x.Kind == 2) = false := by simpa using h2
        have e3 : (x.Kind == 3) = false := by simpa using h3
        rw [e1, e2, e3]
        by_cases h : x.Kind ≥ 1
        · rw [decide_eq_true h, aNA, decide_eq_false (by omega)]; rfl
        · rw [decide_eq_false h]; rfl
theorem aG7 {x : aB} (hx : KOk x) (hs : kF x = true) : sH x = some (qB x) := by
  unfold sH qB
  have e0 : decide ((x.Kids.length : Int) > (0 : Int)) = !x.Kids.isEmpty := by
    cases x.Kids with
    | nil => rfl
    | cons => simp
  rw [e0]
  cases h1 : x.Sign == ([] : aA) with
  | false => rfl
  | true =>
    cases h2 : x.Kids.isEmpty with
    | false => rfl
    | true =>
      simp only [aOn, aNB, aOm]
      cases h3 : x.Kind == 1 with
      | true =>
        simp only [aNA]
        cases x.Text == ([] : aA) <;> cases decide (x.N ≥ -1099511627776) <;> rfl
      | false =>
        simp only [aNB]
        cases h4 : x.Kind == 2 with
        | true =>
          simp only [aNA]
          cases x.N == 0 with
          | false => rfl
          | true => rw [eR rfl, aCQ, vJ]; rfl
        | false =>
          simp only [aNB]
          rw [show mA (aG.mk ([] : aA) ([] : aA) ([] : aA) ([] : aA) ([] : aA) ([] : aA)) x.Text = _ from tF aFT hx.text, aOa, tG]
          cases x.N == 0 <;> cases decide (refN x.Text > 0) <;> rfl
theorem aBY {l : List aB} {f : aB -> Option Bool} (p : aB -> Bool) (hf : ∀ k, k ∈ l -> f k = some (p k)) (hl : l.length <= maxLen) : aM l f = some (l.any p) := by
  unfold aM cY
  have hb : ∀ (j : Nat) (k : aB), l[j]? = some k -> aV l f (j : Int) = bif p k then some (.inr (j : Int)) else some (.inl ((j + 1 : Nat) : Int)) := fun j k hk => by
    unfold aV
    simp only [aZ (aP hk), aNA, bZ hk, aOa, hf k (aOi hk)]
    rw [bN (aP hk) hl]
  rcases qY p l with h | ⟨i, k, h1, h2, h3⟩
  · rw [any_none' h, mH l.length fun j hj => ?_, aR]
    · have : aV l f (l.length : Int) = some (.inr (-1 : Int)) := by
        unfold aV
        rw [cD]; rfl
      rw [this]; rfl
    · have hx := aOf hj
      rw [hb j _ hx, h j _ hx, aNB]
  · rw [List.any_eq_true.2 ⟨k, aOi h1, h2⟩, mH i fun j hj => ?_, aR, hb i k h1, h2]
    · show some (decide ((i : Int) ≥ (0 : Int))) = _
      rw [decide_eq_true (by omega)]
    · have hj' : j < l.length := by have := aP h1; omega
      have hx := aOf hj'
      rw [hb j _ hx, h3 j _ hj hx, aNB]
theorem aEf {α : Type} (l : List α) (n : Nat) : (((l.length : Nat) : Int) == (n : Int)) = Nat.beq l.length n := by
  rw [aOr, beq_iff_eq, Nat.beq_eq]; omega
theorem aKc {α : Type} (l : List α) : decide (((l.length : Nat) : Int) ≥ (2 : Int)) = Nat.ble 2 l.length := by
  rw [aOr, decide_eq_true_eq, Nat.ble_eq]; omega
theorem aKd {α : Type} (l : List α) : decide (((l.length : Nat) : Int) > (1 : Int)) = Nat.ble 2 l.length := by
  rw [aOr, decide_eq_true_eq, Nat.ble_eq]; omega
theorem aAy (s : aA) : bA sgns s = some (gF s) := by
  rw [sL (by decide)]
  unfold hasS sgns gF
  simp only [List.any_cons, List.any_nil, Bool.or_false, Bool.or_assoc]
theorem aA4 {l : List aB} {x5 : Bool} {g : aB -> Option Bool} (hg : ∀ k, g k = some (kF k)) {β : Type} (fin : Bool -> Option β) :
    ((gidx (bif x5 then (((l.length : Nat) : Int) == (2 : Int)) else false) l (0 : Int)).bind fun x6 =>
        (fU (bif x5 then (((l.length : Nat) : Int) == (2 : Int)) else false) (g x6)).bind fun x7 =>
        (gidx (bif (bif x5 then (((l.length : Nat) : Int) == (2 : Int)) else false) then x7 else false) l (1 : Int)).bind fun x8 =>
        (fU (bif (bif x5 then (((l.length : Nat) : Int) == (2 : Int)) else false) then x7 else false) (g x8)).bind fun x9 =>
        fin (bif (bif (bif x5 then (((l.length : Nat) : Int) == (2 : Int)) else false) then x7 else false) then x9 else false)) = fin (x5 && Nat.beq l.length 2 && l.all kF) := by
  cases x5 with
  | false => rfl
  | true =>
    rw [aNA, show (((l.length : Nat) : Int) == (2 : Int)) = Nat.beq l.length 2 from aEf l 2, aOm]
    match l with
    | [] => rfl
    | [a] => rfl
    | [a, b] =>
      show (((some a).bind fun x6 => (fU true (g x6)).bind fun x7 => _)) = _
      rw [aOa, eR rfl, hg, aOa]
      show _ = fin (kF a && (kF b && true))
      rw [Bool.and_true]
      cases kF a with
      | false => rfl
      | true =>
        show (((some b).bind fun x8 => (fU true (g x8)).bind fun x9 => _)) = _
        rw [aOa, eR rfl, hg, aOa]; rfl
    | a :: b :: c :: t => rfl
theorem aG8 : ∀ (n : Nat) (x : aB), sz x <= n -> KOk x -> lV n x = some (wl x) := by
  intro n
  induction n with
  | zero => intro x h; have := uK x; omega
  | succ n ih =>
    intro x h hk
    have hs := aAx x
    show oS (lV n) x = _
    unfold oS
    rw [zB, aOa, aEe]
    cases hsim : kF x with
    | true => rw [aNA, aNA, aG7 hk hsim]; rfl
    | false =>
      rw [aNB, aNB]
      have hany : aM x.Kids (fun x0 => nA (lV n) x0) = some (x.Kids.any fun k => !wl k) := by
        refine aBY _ (fun k hm => ?_) hk.at_.1
        have := sO hm
        unfold nA
        rw [ih k (by omega) (hk.at_.2 k hm)]; rfl
      have hnot : (x.Kids.any fun k => !wl k) = !wls x.Kids := by
        rw [uS, List.any_eq_not_all_not]; simp
      rw [show (x.N != (0 : Int)) = !(x.N == 0) from rfl]
      cases h1 : x.N == 0 with
      | false => rfl
      | true =>
        cases h2 : x.Text == ([] : aA) with
        | false => rfl
        | true =>
          simp only [aOn, aNB, Bool.not_false, kR, hany, aOa, hnot, aOm]
          cases h3 : wls x.Kids with
          | false => rfl
          | true =>
            simp only [aOn, aNB, aOm]
            unfold aDc
            cases h7 : x.Kind == 7 with
            | true =>
              rw [aNA, aNA, show oL = some sgns from rfl, aOa, aAy, aOa]
              exact aA4 (fun k => zB k) some
            | false =>
              rw [aNB, aNB, aKc, show (((x.Kids.length : Nat) : Int) == (1 : Int)) = Nat.beq x.Kids.length 1 from aEf x.Kids 1]
              cases x.Kind == 4 with
              | true => cases x.Sign == ([] : aA) <;> rfl
              | false =>
                cases x.Kind == 5 with
                | true => cases x.Sign == ([] : aA) <;> rfl
                | false =>
                  cases x.Kind == 6 with
                  | true => cases x.Sign == ([] : aA) <;> rfl
                  | false => rfl
theorem aG9 {s : aA} (hs : s.length <= maxLen) : gJ s = some (!(s.contains 39)) := by
  unfold gJ
  refine (aBG (l := s) hs (body := dX s) (fun b => b == 39) false true (fun i x hx => ?_) ?_).trans ?_
  · unfold dX
    simp only [aZ (aP hx), aNA, bZ hx, aOa, show ((x.toNat : Int) == (39 : Int)) = (x == 39) from eZ x 39]
    rw [bN (aP hx) hs]
    cases x == 39 <;> rfl
  · unfold dX
    simp only [cD, aNB]
  · have : s.any (fun b => b == 39) = s.contains 39 := by
      rw [List.contains_eq_any_beq]; congr 1; funext b; exact Bool.beq_comm
    rw [this]; cases s.contains 39 <;> rfl
theorem aIL : ∀ (n : Nat) (x : aB), sz x <= n -> KOk x -> c7 n x = some (wl x) := by
  intro n
  induction n with
  | zero => intro x h; have := uK x; omega
  | succ n ih =>
    intro x h hk
    have hs := aAx x
    have e0 : (((x.Kids.length : Nat) : Int) == (0 : Int)) = x.Kids.isEmpty := by
      cases x.Kids with
      | nil => rfl
      | cons => simp; omega
    show gK (c7 n) x = _
    unfold gK
    rw [aEe]
    unfold kF qB
    rw [e0, show (x.N != (0 : Int)) = !(x.N == 0) from rfl]
    cases h1 : x.Kind == 1 with
    | true =>
      simp only [aNA, Bool.true_or]
      cases x.Kids.isEmpty <;> cases x.Text == ([] : aA) <;> cases x.Sign == ([] : aA) <;> cases decide (x.N <= 1099511627776) <;> cases decide (x.N ≥ -1099511627776) <;> rfl
    | false =>
      simp only [aNB, Bool.false_or]
      cases h2 : x.Kind == 2 with
      | true =>
        simp only [aNA, Bool.true_or]
        cases x.N == 0 with
        | false => cases x.Sign == ([] : aA) <;> cases x.Kids.isEmpty <;> rfl
        | true =>
          cases x.Kids.isEmpty with
          | false => cases x.Sign == ([] : aA) <;> rfl
          | true =>
            cases x.Sign == ([] : aA) with
            | false => rfl
            | true =>
              simp only [aOn, aNB, aNA, kR, aG9 hk.text]; rfl
      | false =>
        simp only [aNB, Bool.false_or]
        cases h3 : x.Kind == 3 with
        | true =>
          simp only [aNA]
          cases x.N == 0 with
          | false => cases x.Sign == ([] : aA) <;> cases x.Kids.isEmpty <;> rfl
          | true =>
            rw [show cH (aG.mk ([] : aA) ([] : aA) ([] : aA) ([] : aA) ([] : aA) ([] : aA)) x.Text = _ from qZ aFT hk.text]
            simp only [aOn, aNB, aOa, tG]
            cases x.Kids.isEmpty <;> cases x.Sign == ([] : aA) <;> cases decide (refN x.Text > 0) <;> cases refN x.Text == (x.Text.length : Int) <;> rfl
        | false =>
          simp only [aNB]
          cases hN : x.N == 0 with
          | false => rfl
          | true =>
            simp only [aOn, aNB, aOm]
            have hb : ∀ (j : Nat) (k : aB), x.Kids[j]? = some k -> dR (c7 n) x (j : Int) = bif wl k then some (.inl ((j + 1 : Nat) : Int)) else some (.inr false) := fun j k hkk => by
              have hm := aOi hkk
              have := sO hm
              unfold dR
              simp only [aZ (aP hkk), aNA, bZ hkk, aOa, ih k (by omega) (hk.at_.2 k hm)]
              rw [bN (aP hkk) hk.at_.1]
              cases wl k <;> rfl
            rcases qY (fun k => !wl k) x.Kids with ha | ⟨i, k, q1, q2, q3⟩
            · have hall : wls x.Kids = true := by
                rw [uS, List.all_eq_true]
                intro k hkm
                obtain ⟨j, hj⟩ := List.getElem?_of_mem hkm
                have := ha j k hj
                simpa using this
              rw [mH x.Kids.length fun j hj => ?_, aR, hall, Bool.and_true]
              · have : dR (c7 n) x (x.Kids.length : Int) = some (.inr ((x.Text == ([] : aA)) && aDc x)) := by
                  unfold dR
                  simp only [cD, aNB]
                  cases x.Text == ([] : aA) with
                  | false => rfl
                  | true =>
                    simp only [aOn, aNB, aOm]
                    unfold aDc
                    cases h7 : x.Kind == 7 with
                    | true =>
                      rw [aNA, aNA, aC6, aOa]
                      exact aA4 (fun k => aA3 k) (fun b => (some (Sum.inr b) : Option (Int ⊕ Bool)))
                    | false =>
                      rw [aNB, aNB, aKd, show (((x.Kids.length : Nat) : Int) == (1 : Int)) = Nat.beq x.Kids.length 1 from aEf x.Kids 1, aE1]
                      cases h4 : x.Kind == 4 with
                      | true =>
                        have h5 : (x.Kind == 5) = false := by rw [eq_of_beq h4]; rfl
                        have h6 : (x.Kind == 6) = false := by rw [eq_of_beq h4]; rfl
                        rw [h5, h6]
                        cases x.Sign == ([] : aA) <;> cases Nat.beq x.Kids.length 1 <;> rfl
                      | false =>
                        cases x.Kind == 5 <;> cases x.Kind == 6 <;> cases x.Sign == ([] : aA) <;> rfl
                rw [this]
              · have hx := aOf hj
                have := ha j _ hx
                rw [hb j _ hx]
                rw [Bool.not_eq_false'] at this
                rw [this, aNA]
            · have hall : wls x.Kids = false := by
                rw [uS, List.all_eq_false]
                exact ⟨k, aOi q1, by simpa using q2⟩
              rw [mH i fun j hj => ?_, aR, hb i k q1, hall]
              · rw [Bool.not_eq_true'] at q2
                rw [q2]
                cases x.Text == ([] : aA) <;> rfl
              · have hj' : j < x.Kids.length := by have := aP q1; omega
                have hx := aOf hj'
                have := q3 j _ hj hx
                rw [Bool.not_eq_false'] at this
                rw [hb j _ hx, this, aNA]
def opn (w : aA) : Int := (if w = [40] then 1 else 0) - (if w = [41] then 1 else 0)
def nQ (by_ : aA) : Int -> List aA -> List aA -> List (List aA)
  | _, cur, [] => [cur]
  | o, cur, w :: l => if o + opn w = 0 /\ w = by_ then cur :: nQ by_ (o + opn w) [] l else nQ by_ (o + opn w) (cur ++ [w]) l
def lG : Int -> List aA -> Bool
  | _, [] => false
  | o, w :: l => if o + opn w = 0 then l.isEmpty else lG (o + opn w) l
def gL (wh : List aA -> aB) : Nat -> List aA -> aB
  | 0, _ => fT
  | _ + 1, [] => fT
  | m + 1, w :: l => if w = [33] then (if (gL wh m l).Kind = 0 then fT else aB.mk 4 0 [] [] [gL wh m l])
    else if w = [40] then (if 2 < l.length + 1 /\ lG 0 (w :: l) = true then wh (l.take (l.length - 1)) else fT)
    else match l with
      | [] => dS w
      | [g, w2] => if gF g = true then (if (dS w).Kind = 0 ∨ (dS w2).Kind = 0 then fT else aB.mk 7 0 [] g [dS w, dS w2]) else fT
      | _ => fT
def rowX (by_ : aA) (f : List aA -> aB) (kind : Int) (l : List aA) : aB :=
  if (nQ by_ 0 [] l).any (fun p => (f p).Kind == 0) = true then fT else aBV kind (((nQ by_ 0 [] l).map f).headD fT) (((nQ by_ 0 [] l).map f).drop 1)
def gB : Nat -> List aA -> aB
  | 0 => fun _ => fT
  | n + 1 => fun l => rowX [124] (fun p => rowX [38] (gL (gB n) (n + 1)) 5 p) 6 l
def aFY (by_ : aA) : List (List aA) -> List aA
  | [] => []
  | [p] => p
  | p :: q :: ps => p ++ by_ :: aFY by_ (q :: ps)
theorem rB (by_ : aA) : ∀ (l : List aA) (o : Int) (cur : List aA), ∃ p ps, nQ by_ o cur l = p :: ps
  | [], o, cur => ⟨cur, [], rfl⟩
  | w :: l, o, cur => by
    rw [nQ]
    split
    · exact ⟨_, _, rfl⟩
    · exact rB by_ l _ _
theorem wL (by_ : aA) : ∀ (l : List aA) (o : Int) (cur : List aA), aFY by_ (nQ by_ o cur l) = cur ++ l
  | [], o, cur => by rw [nQ]; simp [aFY]
  | w :: l, o, cur => by
    rw [nQ]
    split
    · rename_i h
      obtain ⟨p, ps, hp⟩ := rB by_ l (o + opn w) []
      have := wL by_ l (o + opn w) []
      rw [hp] at this ⊢
      rw [aFY, this, h.2]; rfl
    · rw [wL by_ l _ _]; simp
def pK : Int -> List aA -> Prop
  | o, [] => o = 0
  | o, w :: l => 0 <= o + opn w /\ pK (o + opn w) l
def rC (by_ : aA) : Int -> List aA -> Prop
  | _, [] => True
  | o, w :: l => ¬ (o + opn w = 0 /\ w = by_) /\ rC by_ (o + opn w) l
theorem zC {by_ : aA} : ∀ (u r : List aA) (o : Int) (cur : List aA), pK o u -> rC by_ o u -> nQ by_ o cur (u ++ r) = nQ by_ 0 (cur ++ u) r
  | [], r, o, cur, ho, _ => by rw [show o = 0 from ho]; simp
  | w :: u, r, o, cur, ho, hn => by
    rw [aOt, nQ, if_neg hn.1, zC u r _ _ ho.2 hn.2]; simp
theorem zD : ∀ (u v : List aA) (o : Int), pK o u -> pK 0 v -> pK o (u ++ v)
  | [], v, o, h, hv => by rw [show o = 0 from h]; exact hv
  | w :: u, v, o, h, hv => ⟨h.1, zD u v _ h.2 hv⟩
theorem zE {by_ : aA} : ∀ (u v : List aA) (o : Int), pK o u -> rC by_ o u -> rC by_ 0 v -> rC by_ o (u ++ v)
  | [], v, o, h, _, hv => by rw [show o = 0 from h]; exact hv
  | w :: u, v, o, h, hn, hv => ⟨hn.1, zE u v _ h.2 hn.2 hv⟩
theorem aE3 : ∀ (u r : List aA) (o : Int), pK o u -> 0 <= o -> ∀ c : Int, 1 <= c -> (∀ by_ : aA, rC by_ 0 r -> pK 0 r -> True) -> pK c r -> pK (o + c) (u ++ r)
  | [], r, o, h, _, c, _, _, hr => by rw [show o = 0 from h, Int.zero_add]; exact hr
  | w :: u, r, o, h, h0, c, hc, _, hr => by
    refine ⟨?_, ?_⟩
    · have := h.1; omega
    · rw [show o + c + opn w = (o + opn w) + c by omega]
      exact aE3 u r _ h.2 h.1 c hc (fun _ _ _ => trivial) hr
theorem aE4 {by_ : aA} : ∀ (u r : List aA) (o : Int), pK o u -> 0 <= o -> ∀ c : Int, 1 <= c -> rC by_ c r -> rC by_ (o + c) (u ++ r)
  | [], r, o, h, _, c, _, hr => by rw [show o = 0 from h, Int.zero_add]; exact hr
  | w :: u, r, o, h, h0, c, hc, hr => by
    refine ⟨fun hh => ?_, ?_⟩
    · have := h.1; omega
    · rw [show o + c + opn w = (o + opn w) + c by omega]
      exact aE4 u r _ h.2 h.1 c hc hr
theorem aDd : ∀ (u : List aA) (o : Int), pK o u -> 0 <= o -> lG (o + 1) (u ++ [[41]]) = true
  | [], o, h, _ => by
    rw [show o = 0 from h]; rfl
  | w :: u, o, h, h0 => by
    rw [aOt, lG, if_neg (by have := h.1; omega), show o + 1 + opn w = (o + opn w) + 1 by omega]
    exact aDd u _ h.2 h.1
theorem aHa : opn [40] = 1 := rfl
theorem opn41 : opn [41] = -1 := rfl
theorem zF {w : aA} (h1 : w ≠ [40]) (h2 : w ≠ [41]) : opn w = 0 := by unfold opn; rw [if_neg h1, if_neg h2]; rfl
theorem aBZ {mid : List aA} (h : pK 0 mid) (hne : mid ≠ []) : pK 0 ([40] :: (mid ++ [[41]])) /\ (∀ by_, by_ ≠ [40] -> by_ ≠ [41] -> rC by_ 0 ([40] :: (mid ++ [[41]]))) /\ lG 0 ([40] :: (mid ++ [[41]])) = true := by
  refine ⟨⟨by rw [aHa]; omega, ?_⟩, fun by_ h1 h2 => ⟨fun hh => h1 hh.2.symm, ?_⟩, ?_⟩
  · rw [aHa]
    exact aE3 mid [[41]] 0 h (Int.le_refl _) 1 (Int.le_refl _) (fun _ _ _ => trivial) ⟨by rw [opn41]; omega, by rw [opn41]; rfl⟩
  · rw [aHa]
    exact aE4 mid [[41]] 0 h (Int.le_refl _) 1 (Int.le_refl _) ⟨fun hh => h2 hh.2.symm, trivial⟩
  · rw [lG, aHa, if_neg (by omega)]
    exact aDd mid 0 h (Int.le_refl _)
theorem zG : ∀ (l : List aA) (o : Int), 1 <= o -> lG o l = true -> ∃ m, l = m ++ [[41]]
  | [], o, _, h => by cases h
  | w :: l, o, ho, h => by
    rw [lG] at h
    split at h
    · rename_i h0
      have : w = [41] := by
        unfold opn at h0
        by_cases h41 : w = [41]
        · exact h41
        · rw [if_neg h41] at h0
          split at h0 <;> omega
      cases l with
      | nil => exact ⟨[], by rw [this]; rfl⟩
      | cons _ _ => cases h
    · rename_i h0
      have h1 : 1 <= o + opn w := by
        unfold opn at h0 ⊢
        by_cases h41 : w = [41]
        · subst h41
          rw [if_neg (by decide), if_pos rfl] at h0 ⊢
          omega
        · rw [if_neg h41] at h0 ⊢
          split at h0 <;> split <;> omega
      obtain ⟨m, rfl⟩ := zG l _ h1 h
      exact ⟨w :: m, rfl⟩
theorem aFZ (w : aA) : (dS w).Kind = 0 -> dS w = fT := by
  unfold dS
  cases w.head? == some 39 with
  | true => intro h; exact absurd (show (2 : Int) = 0 from h) (by decide)
  | false =>
    cases decide (refN w > 0) with
    | true => intro h; exact absurd (show (3 : Int) = 0 from h) (by decide)
    | false =>
      cases (sgn w).2 == 0 with
      | true => intro h; exact absurd (show (1 : Int) = 0 from h) (by decide)
      | false => intro _; rfl
theorem leaf33 : dS [33] = fT := sM rfl rfl rfl rfl
theorem leaf40 : dS [40] = fT := sM rfl rfl rfl rfl
theorem leaf41 : dS [41] = fT := sM rfl rfl rfl rfl
theorem leaf38 : dS [38] = fT := sM rfl rfl rfl rfl
theorem aKe : dS [124] = fT := sM rfl rfl rfl rfl
theorem kG (wh : List aA -> aB) (m : Nat) (w : aA) (l : List aA) : gL wh (m + 1) (w :: l) = if w = [33] then (if (gL wh m l).Kind = 0 then fT else aB.mk 4 0 [] [] [gL wh m l])
    else if w = [40] then (if 2 < l.length + 1 /\ lG 0 (w :: l) = true then wh (l.take (l.length - 1)) else fT)
    else match l with
      | [] => dS w
      | [g, w2] => if gF g = true then (if (dS w).Kind = 0 ∨ (dS w2).Kind = 0 then fT else aB.mk 7 0 [] g [dS w, dS w2]) else fT
      | _ => fT := by rw [gL.eq_def]
/-- A piece, read by the document's as this. -/
structure Snd (f : List aA -> aB) (l : List aA) (x : aB) (r : List aA) (tops : List aA) (u : List aA) : Prop where
  eq : l = u ++ r
  val : f u = x
  kind : x.Kind ≠ 0
  ok : pK 0 u
  top : ∀ b, b ∈ tops -> rC b 0 u
  ne : u ≠ []
theorem aE5 {w : aA} (h : (dS w).Kind ≠ 0) : w ≠ [33] /\ w ≠ [40] /\ w ≠ [41] /\ w ≠ [38] /\ w ≠ [124] := by
  refine ⟨?_, ?_, ?_, ?_, ?_⟩ <;> intro he <;> subst he <;> refine h ?_
  · rw [leaf33]; rfl
  · rw [leaf40]; rfl
  · rw [leaf41]; rfl
  · rw [leaf38]; rfl
  · rw [aKe]; rfl
theorem aIM {g : aA} (h : gF g = true) : g ≠ [40] /\ g ≠ [41] /\ g ≠ [38] /\ g ≠ [124] := by
  refine ⟨?_, ?_, ?_, ?_⟩ <;> intro he <;> subst he <;> exact absurd h (by decide)
theorem tH {w : aA} (h1 : w ≠ [40]) (h2 : w ≠ [41]) {l : List aA} (hl : pK 0 l) : pK 0 (w :: l) := by
  refine ⟨?_, ?_⟩ <;> rw [zF h1 h2]
  · exact Int.le_refl _
  · exact hl
theorem mK {w b : aA} (h1 : w ≠ [40]) (h2 : w ≠ [41]) (hb : w ≠ b) {l : List aA} (hl : rC b 0 l) : rC b 0 (w :: l) := by
  refine ⟨fun hh => hb hh.2, ?_⟩
  rw [zF h1 h2]; exact hl
theorem aKf {any : List aA -> Res} {wh : List aA -> aB} (hany : ∀ l x r, any l = some (x, r) -> ∃ u, Snd wh l x r [] u) :
    ∀ (m : Nat) (l : List aA) (x : aB) (r : List aA), pOne any m l = some (x, r) -> ∃ u, Snd (fun u => gL wh (u.length + 1) u) l x r [[124], [38]] u /\ ∀ M, u.length < M -> gL wh M u = x := by
  intro m
  induction m with
  | zero => intro l x r h; cases h
  | succ m ih =>
    intro l x r h
    cases l with
    | nil => cases h
    | cons w l =>
    rw [mJ] at h
    by_cases h33 : w = [33]
    · rw [if_pos h33] at h
      cases hp : pOne any m l with
      | none => rw [hp] at h; cases h
      | some p =>
        rw [hp] at h
        obtain ⟨y, r'⟩ := p
        cases h
        obtain ⟨u, hu, huM⟩ := ih l y r' hp
        have hM : ∀ M, (w :: u).length < M -> gL wh M (w :: u) = aB.mk 4 0 [] [] [y] := fun M hM => by
          obtain ⟨M, rfl⟩ : ∃ M', M = M' + 1 := ⟨M - 1, by omega⟩
          rw [aOb] at hM
          rw [kG, if_pos h33, huM M (by omega), if_neg hu.kind]
        refine ⟨w :: u, ⟨by rw [hu.eq]; rfl, hM _ (by omega), (show (4 : Int) ≠ 0 by decide), tH (by rw [h33]; decide) (by rw [h33]; decide) hu.ok, fun b hb => mK (by rw [h33]; decide) (by rw [h33]; decide) ?_ (hu.top b hb), by simp⟩, hM⟩
        rw [h33]
        intro he
        subst he
        exact absurd hb (by decide)
    · rw [if_neg h33] at h
      by_cases h40 : w = [40]
      · rw [if_pos h40] at h
        cases hp : any l with
        | none => rw [hp] at h; cases h
        | some p =>
          rw [hp] at h
          obtain ⟨y, r'⟩ := p
          cases r' with
          | nil => cases h
          | cons c r' =>
            dsimp only at h
            by_cases hc : c = [41]
            · rw [if_pos hc] at h
              cases h
              obtain ⟨mid, hm⟩ := hany l x (c :: r) hp
              obtain ⟨b1, b2, b3⟩ := aBZ hm.ok hm.ne
              have hml : 1 <= mid.length := by
                cases mid with
                | nil => exact absurd rfl hm.ne
                | cons => simp
              have hM : ∀ M, (w :: (mid ++ [[41]])).length < M -> gL wh M (w :: (mid ++ [[41]])) = x := fun M hM => by
                obtain ⟨M, rfl⟩ : ∃ M', M = M' + 1 := ⟨M - 1, by omega⟩
                rw [kG, if_neg h33, if_pos h40, h40, if_pos ⟨by simp; omega, b3⟩]
                rw [aOc, aOh, Nat.add_sub_cancel, List.take_left' rfl]
                exact hm.val
              refine ⟨w :: (mid ++ [[41]]), ⟨by rw [hm.eq, hc]; simp, hM _ (by omega), hm.kind, by rw [h40]; exact b1, fun b hb => ?_, by simp⟩, hM⟩
              rw [h40]
              refine b2 b ?_ ?_ <;> intro he <;> subst he <;> exact absurd hb (by decide)
            · rw [if_neg hc] at h; cases h
      · rw [if_neg h40] at h
        by_cases hk : (dS w).Kind = 0
        · rw [if_pos hk] at h; cases h
        · rw [if_neg hk] at h
          have ht := aE5 hk
          have solo : ∀ M, ([w] : List aA).length < M -> gL wh M [w] = dS w := fun M hM => by
            obtain ⟨M, rfl⟩ : ∃ M', M = M' + 1 := ⟨M - 1, by omega⟩
            rw [kG, if_neg h33, if_neg h40]
          have soloS : ∀ (r : List aA), Snd (fun u => gL wh (u.length + 1) u) (w :: r) (dS w) r [[124], [38]] [w] := fun r =>
            ⟨rfl, solo _ (by simp), hk, tH ht.2.1 ht.2.2.1 rfl, fun b hb => mK ht.2.1 ht.2.2.1 (by
              intro he
              subst he
              simp only [List.mem_cons, List.mem_nil_iff, or_false] at hb
              rcases hb with hb | hb
              · exact ht.2.2.2.2 hb
              · exact ht.2.2.2.1 hb) trivial, by simp⟩
          cases l with
          | nil => cases h; exact ⟨[w], soloS [], solo⟩
          | cons g l2 =>
            dsimp only at h
            by_cases hg : gF g = true
            · rw [if_pos hg] at h
              cases l2 with
              | nil => cases h
              | cons w2 r2 =>
                dsimp only at h
                by_cases hk2 : (dS w2).Kind = 0
                · rw [if_pos hk2] at h; cases h
                · rw [if_neg hk2] at h
                  cases h
                  have ht2 := aE5 hk2
                  have hgt := aIM hg
                  have hM : ∀ M, ([w, g, w2] : List aA).length < M -> gL wh M [w, g, w2] = aB.mk 7 0 [] g [dS w, dS w2] := fun M hM => by
                    obtain ⟨M, rfl⟩ : ∃ M', M = M' + 1 := ⟨M - 1, by omega⟩
                    rw [kG, if_neg h33, if_neg h40]
                    dsimp only
                    rw [if_pos hg, if_neg (fun hh => hh.elim hk hk2)]
                  refine ⟨[w, g, w2], ⟨rfl, hM _ (by simp), (show (7 : Int) ≠ 0 by decide), tH ht.2.1 ht.2.2.1 (tH hgt.1 hgt.2.1 (tH ht2.2.1 ht2.2.2.1 rfl)), fun b hb => ?_, by simp⟩, hM⟩
                  simp only [List.mem_cons, List.mem_nil_iff, or_false] at hb
                  rcases hb with hb | hb <;> subst hb
                  · exact mK ht.2.1 ht.2.2.1 ht.2.2.2.2 (mK hgt.1 hgt.2.1 hgt.2.2.2 (mK ht2.2.1 ht2.2.2.1 ht2.2.2.2.2 trivial))
                  · exact mK ht.2.1 ht.2.2.1 ht.2.2.2.1 (mK hgt.1 hgt.2.1 hgt.2.2.1 (mK ht2.2.1 ht2.2.2.1 ht2.2.2.2.1 trivial))
            · rw [if_neg hg] at h
              cases h
              exact ⟨[w], soloS _, solo⟩
def glue (by_ : aA) (us : List (List aA)) : List aA := us.flatMap fun u => by_ :: u
theorem mL (by_ : aA) (u : List aA) (us : List (List aA)) : glue by_ (u :: us) = by_ :: (u ++ glue by_ us) := by unfold glue; rw [List.flatMap_cons]; rfl
theorem aB0 (by_ : aA) : glue by_ [] = [] := rfl
theorem aA5 (by_ : aA) : ∀ (p : List aA) (ps : List (List aA)), aFY by_ (p :: ps) = p ++ glue by_ ps
  | p, [] => by rw [aB0, aOx]; rfl
  | p, q :: ps => by rw [aFY, aA5 by_ q ps, mL]
theorem aA6 {by_ : aA} (h1 : by_ ≠ [40]) (h2 : by_ ≠ [41]) : ∀ (us : List (List aA)) (u cur : List aA), pK 0 u -> rC by_ 0 u -> (∀ v, v ∈ us -> pK 0 v /\ rC by_ 0 v) -> nQ by_ 0 cur (u ++ glue by_ us) = (cur ++ u) :: us
  | [], u, cur, hu, hn, _ => by
    rw [zC u _ 0 cur hu hn, aB0]; rfl
  | v :: us, u, cur, hu, hn, hv => by
    have h3 := hv v (aOd ..)
    rw [zC u _ 0 cur hu hn, mL, nQ, zF h1 h2, if_pos ⟨rfl, rfl⟩, Int.zero_add, aA6 h1 h2 us v [] h3.1 h3.2 fun w hw => hv w (aOe _ hw)]
    rfl
section
variable {one : List aA -> Res} {f : List aA -> aB} {by_ : aA} (h1 : by_ ≠ [40]) (h2 : by_ ≠ [41]) {tops : List aA} {n : Nat}
  (hone : ∀ l x r, l.length <= n -> one l = some (x, r) -> ∃ u, Snd f l x r (by_ :: tops) u)
include h1 h2 hone
omit h1 h2 in
theorem aIN : ∀ (m : Nat) (l : List aA) (xs : List aB) (r : List aA), l.length <= n -> uA one by_ m l = some (xs, r) -> ∃ us, l = glue by_ us ++ r /\ us.map f = xs /\ (∀ x, x ∈ xs -> x.Kind ≠ 0) /\ ∀ v, v ∈ us -> pK 0 v /\ rC by_ 0 v /\ ∀ b, b ∈ tops -> rC b 0 v := by
  intro m
  induction m with
  | zero => intro l xs r _ h; cases h
  | succ m ih =>
    intro l xs r hl h
    cases l with
    | nil => cases h; exact ⟨[], rfl, rfl, fun x hx => (by cases hx), fun v hv => by cases hv⟩
    | cons w l =>
      rw [uA] at h
      by_cases hw : w = by_
      · rw [if_pos hw] at h
        cases hp : one l with
        | none => rw [hp] at h; cases h
        | some p =>
          obtain ⟨x, r1⟩ := p
          rw [hp] at h
          dsimp only at h
          cases hq : uA one by_ m r1 with
          | none => rw [hq] at h; cases h
          | some q =>
            obtain ⟨ys, r2⟩ := q
            rw [hq] at h
            cases h
            rw [aOb] at hl
            obtain ⟨u, hu⟩ := hone l x r1 (by omega) hp
            have hr1 : r1.length <= n := by have := congrArg List.length hu.eq; rw [aOc] at this; omega
            obtain ⟨us, g1, g2, g3, g4⟩ := ih r1 ys r2 hr1 hq
            refine ⟨u :: us, ?_, ?_, ?_, ?_⟩
            · rw [mL, hw, hu.eq, g1]; simp
            · rw [List.map_cons, hu.val, g2]
            · intro y hy
              rcases List.mem_cons.1 hy with rfl | hy
              · exact hu.kind
              · exact g3 y hy
            · intro v hv
              rcases List.mem_cons.1 hv with rfl | hv
              · exact ⟨hu.ok, hu.top _ (aOd ..), fun b hb => hu.top b (aOe _ hb)⟩
              · exact g4 v hv
      · rw [if_neg hw] at h
        cases h
        exact ⟨[], rfl, rfl, fun x hx => (by cases hx), fun v hv => by cases hv⟩
omit hone in
theorem aHb : ∀ (us : List (List aA)), (∀ v, v ∈ us -> pK 0 v /\ rC by_ 0 v /\ ∀ b, b ∈ tops -> rC b 0 v) -> pK 0 (glue by_ us) /\ ∀ b, b ∈ tops -> by_ ≠ b -> rC b 0 (glue by_ us)
  | [], _ => ⟨rfl, fun _ _ _ => trivial⟩
  | u :: us, h => by
    obtain ⟨g1, g2⟩ := aHb us fun v hv => h v (aOe _ hv)
    obtain ⟨k1, k2, k3⟩ := h u (aOd ..)
    rw [mL]
    exact ⟨tH h1 h2 (zD _ _ _ k1 g1), fun b hb hne => mK h1 h2 hne (zE _ _ _ k1 (k3 b hb) (g2 b hb hne))⟩
omit h1 h2 hone in
theorem aA7 {kind : Int} (hk : kind ≠ 0) {x : aB} (hx : x.Kind ≠ 0) (xs : List aB) : (aBV kind x xs).Kind ≠ 0 := by
  unfold aBV
  cases xs.isEmpty with
  | true => exact hx
  | false => exact hk
theorem aHc {kind : Int} (hk : kind ≠ 0) (hbt : ∀ b, b ∈ tops -> by_ ≠ b) (m : Nat) (l : List aA) (x : aB) (r : List aA) (hl : l.length <= n) (h : pRow one kind by_ m l = some (x, r)) : ∃ u, Snd (rowX by_ f kind) l x r tops u := by
  unfold pRow at h
  cases hp : one l with
  | none => rw [hp] at h; cases h
  | some p =>
    obtain ⟨x0, r1⟩ := p
    rw [hp] at h
    dsimp only at h
    cases hq : uA one by_ m r1 with
    | none => rw [hq] at h; cases h
    | some q =>
      obtain ⟨ys, r2⟩ := q
      rw [hq] at h
      cases h
      obtain ⟨u, hu⟩ := hone l x0 r1 hl hp
      have hr1 : r1.length <= n := by have := congrArg List.length hu.eq; rw [aOc] at this; omega
      obtain ⟨us, g1, g2, g3, g4⟩ := aIN hone m r1 ys r hr1 hq
      obtain ⟨k1, k2⟩ := aHb h1 h2 us g4
      have hparts : nQ by_ 0 [] (u ++ glue by_ us) = u :: us := aA6 h1 h2 us u [] hu.ok (hu.top _ (aOd ..)) fun v hv => ⟨(g4 v hv).1, (g4 v hv).2.1⟩
      refine ⟨u ++ glue by_ us, by rw [hu.eq, g1]; simp, ?_, aA7 hk hu.kind ys, zD _ _ _ hu.ok k1, fun b hb => zE _ _ _ hu.ok (hu.top b (aOe _ hb)) (k2 b hb (hbt b hb)), ?_⟩
      · unfold rowX
        rw [hparts, if_neg ?_]
        · rw [List.map_cons, List.headD_cons, aOw, aOp, hu.val, g2]
        · rw [aOv, aOy]
          intro p hp'
          rcases List.mem_cons.1 hp' with rfl | hp'
          · rw [hu.val]; simpa using hu.kind
          · have := g3 (f p) (by rw [<- g2]; exact List.mem_map_of_mem hp')
            simpa using this
      · intro he
        exact hu.ne (List.append_eq_nil_iff.1 he).1
end
theorem aKg : ∀ (n : Nat) (l : List aA) (x : aB) (r : List aA) (m : Nat), l.length <= n -> pAny m l = some (x, r) -> ∃ u, Snd (gB (n + 1)) l x r [] u := by
  intro n
  induction n using Nat.strongRecOn with
  | _ n ih =>
  intro l x r m hl h
  cases m with
  | zero => cases h
  | succ m =>
  refine aHc (by decide) (by decide) (tops := []) (n := n) (f := fun p => rowX [38] (gL (gB n) (n + 1)) 5 p) (fun l2 x2 r2 hl2 h2 => ?_) (by decide) (fun b hb => by cases hb) (m + 1) l x r hl h
  refine aHc (by decide) (by decide) (tops := [[124]]) (n := n) (f := gL (gB n) (n + 1)) (fun l3 x3 r3 hl3 h3 => ?_) (by decide) (fun b hb => by rw [List.mem_singleton.1 hb]; decide) (m + 1) l2 x2 r2 hl2 h2
  -- a piece: what is in its aBZ is shorter
  have key : ∀ (k : Nat) (l : List aA) (x : aB) (r : List aA), l.length <= n -> pOne (pAny m) k l = some (x, r) -> ∃ u, Snd (gL (gB n) (n + 1)) l x r [[124], [38]] u := by
    intro k
    intro l x r hl h
    obtain ⟨u, hu, huM⟩ := aKf (any := fun l' => if l'.length < n then pAny m l' else none) (wh := gB n) (fun l' x' r' h' => by
      by_cases hln : l'.length < n
      · rw [if_pos hln] at h'
        obtain ⟨n', rfl⟩ : ∃ n', n = n' + 1 := ⟨n - 1, by omega⟩
        exact ih n' (by omega) l' x' r' m (by omega) h'
      · rw [if_neg hln] at h'; cases h') k l x r (by
        -- the same, as it looks at shorter rows only
        have same : ∀ (k : Nat) (l : List aA), l.length <= n -> pOne (fun l' => if l'.length < n then pAny m l' else none) k l = pOne (pAny m) k l := by
          intro k
          induction k with
          | zero => intro l _; rfl
          | succ k ihk =>
            intro l hl
            cases l with
            | nil => rfl
            | cons w l =>
              rw [aOb] at hl
              rw [mJ, mJ, ihk l (by omega), if_pos (show l.length < n by omega)]
        rw [same k l hl]; exact h)
    have hul : u.length <= n := by have := congrArg List.length hu.eq; rw [aOc] at this; omega
    exact ⟨u, hu.eq, huM (n + 1) (by omega), hu.kind, hu.ok, hu.top, hu.ne⟩
  obtain ⟨u, hu⟩ := key (m + 1) l3 x3 r3 hl3 h3
  exact ⟨u, hu.eq, hu.val, hu.kind, hu.ok, fun b hb => hu.top b (by
    simp only [List.mem_cons, List.mem_nil_iff, or_false] at hb ⊢
    exact hb.symm), hu.ne⟩
def Fol (r : List aA) : Prop := r = [] ∨ ∃ w t, r = w :: t /\ (w = [38] ∨ w = [124] ∨ w = [41])
theorem Fol.nosign {w : aA} (h : w = [38] ∨ w = [124] ∨ w = [41]) : gF w = false := by rcases h with rfl | rfl | rfl <;> decide
theorem aHd {any : List aA -> Res} {wh : List aA -> aB} : ∀ (k : Nat) (p : List aA), (∀ mid, mid.length < p.length -> (wh mid).Kind ≠ 0 -> ∀ t, any (mid ++ [41] :: t) = some (wh mid, [41] :: t)) -> (gL wh k p).Kind ≠ 0 -> ∀ (j : Nat), p.length < j -> ∀ r, Fol r -> pOne any j (p ++ r) = some (gL wh k p, r) := by
  intro k
  induction k with
  | zero => intro p _ h; exact absurd rfl h
  | succ k ih =>
    intro p hany h j hj r hr
    cases p with
    | nil => exact absurd rfl h
    | cons w l =>
    obtain ⟨j, rfl⟩ : ∃ j', j = j' + 1 := ⟨j - 1, by omega⟩
    rw [aOb] at hj
    rw [kG] at h ⊢
    rw [aOt, mJ]
    by_cases h33 : w = [33]
    · rw [if_pos h33] at h ⊢
      rw [if_pos h33]
      by_cases hk : (gL wh k l).Kind = 0
      · rw [if_pos hk] at h; exact absurd rfl h
      · rw [if_neg hk] at h ⊢
        rw [ih l (fun mid hm => hany mid (by rw [aOb]; omega)) hk j (by omega) r hr]; rfl
    · rw [if_neg h33] at h ⊢
      rw [if_neg h33]
      by_cases h40 : w = [40]
      · rw [if_pos h40] at h ⊢
        rw [if_pos h40]
        by_cases hc : 2 < l.length + 1 /\ lG 0 (w :: l) = true
        · rw [if_pos hc] at h ⊢
          have hcl := hc.2
          rw [h40, lG, aHa, if_neg (by omega)] at hcl
          obtain ⟨mid, rfl⟩ := zG l _ (by omega) hcl
          rw [aOc, aOh, Nat.add_sub_cancel, List.take_left' rfl] at h ⊢
          rw [List.append_assoc, aOt, List.nil_append, hany mid (by rw [aOb, aOc]; omega) h r]
          dsimp only
          rw [if_pos rfl]
        · rw [if_neg hc] at h; exact absurd rfl h
      · rw [if_neg h40] at h ⊢
        rw [if_neg h40]
        cases l with
        | nil =>
          rw [if_neg h]
          rcases hr with rfl | ⟨g, t, rfl, hg⟩
          · rfl
          · show (if gF g = true then _ else some (dS w, g :: t)) = _
            rw [if_neg (by rw [Fol.nosign hg]; simp)]
        | cons g l2 =>
          cases l2 with
          | nil => exact absurd rfl h
          | cons w2 l3 =>
            cases l3 with
            | cons _ _ => exact absurd rfl h
            | nil =>
              dsimp only at h ⊢
              by_cases hg : gF g = true
              · rw [if_pos hg] at h ⊢
                by_cases hk : (dS w).Kind = 0 ∨ (dS w2).Kind = 0
                · rw [if_pos hk] at h; exact absurd rfl h
                · rw [if_neg hk] at h ⊢
                  rw [if_neg (fun e => hk (.inl e))]
                  show (if gF g = true then (if (dS w2).Kind = 0 then none else some (aB.mk 7 0 [] g [dS w, dS w2], r)) else _) = _
                  rw [if_pos hg, if_neg (fun e => hk (.inr e))]
              · rw [if_neg hg] at h; exact absurd rfl h
section
variable {one : List aA -> Res} {f : List aA -> aB} {by_ : aA} {FolB : List aA -> Prop} (hb : ∀ t, FolB (by_ :: t))
include hb
theorem aE6 : ∀ (ps : List (List aA)), (∀ p, p ∈ ps -> ∀ r, FolB r -> one (p ++ r) = some (f p, r)) -> ∀ (m : Nat), ps.length < m -> ∀ r, FolB r -> (∀ w t, r = w :: t -> w ≠ by_) -> uA one by_ m (glue by_ ps ++ r) = some (ps.map f, r)
  | [], _, m, hm, r, hr, hn => by
    obtain ⟨m, rfl⟩ : ∃ m', m = m' + 1 := ⟨m - 1, by simp at hm; omega⟩
    rw [aB0, List.nil_append]
    cases r with
    | nil => rfl
    | cons w t => rw [uA, if_neg (hn w t rfl)]; rfl
  | p :: ps, h, m, hm, r, hr, hn => by
    obtain ⟨m, rfl⟩ : ∃ m', m = m' + 1 := ⟨m - 1, by omega⟩
    rw [aOb] at hm
    have hfol : FolB (glue by_ ps ++ r) := by
      cases ps with
      | nil => exact hr
      | cons q ps => rw [mL]; exact hb _
    rw [mL, aOt, List.append_assoc, uA, if_pos rfl, h p (aOd ..) _ hfol]
    dsimp only
    rw [aE6 ps (fun q hq => h q (aOe _ hq)) m (by omega) r hr hn]; rfl
theorem aHe {kind : Int} {u : List aA} (h : (rowX by_ f kind u).Kind ≠ 0) (hone : ∀ p, p.length <= u.length -> (f p).Kind ≠ 0 -> ∀ r, FolB r -> one (p ++ r) = some (f p, r)) (m : Nat) (hm : u.length < m) (r : List aA)
    (hr : FolB r) (hn : ∀ w t, r = w :: t -> w ≠ by_) : pRow one kind by_ m (u ++ r) = some (rowX by_ f kind u, r) := by
  unfold rowX at h ⊢
  obtain ⟨p, ps, hp⟩ := rB by_ u 0 []
  have hj := wL by_ u 0 []
  rw [hp, aA5, List.nil_append] at hj
  rw [hp] at h ⊢
  by_cases ha : (p :: ps).any (fun p => (f p).Kind == 0) = true
  · rw [if_pos ha] at h; exact absurd rfl h
  · rw [if_neg ha] at h ⊢
    rw [aOv, aOy] at ha
    have hlen : ∀ q, q ∈ p :: ps -> q.length <= u.length := by
      have glen : ∀ (ps : List (List aA)) q, q ∈ ps -> q.length <= (glue by_ ps).length := by
        intro ps
        induction ps with
        | nil => intro q hq; cases hq
        | cons a ps ih =>
          intro q hq
          rw [mL, aOb, aOc]
          rcases List.mem_cons.1 hq with rfl | hq
          · omega
          · have := ih q hq; omega
      intro q hq
      rw [<- hj, aOc]
      rcases List.mem_cons.1 hq with rfl | hq
      · omega
      · have := glen ps q hq; omega
    have glc : ∀ (ps : List (List aA)), ps.length <= (glue by_ ps).length := by
      intro ps
      induction ps with
      | nil => exact aOg _
      | cons a ps ih => rw [mL, aOb, aOb, aOc]; omega
    have hps : ps.length < m := by
      have := glc ps
      have := congrArg List.length hj
      rw [aOc] at this
      omega
    have hk : ∀ q, q ∈ p :: ps -> (f q).Kind ≠ 0 := fun q hq => by have := ha q hq; simpa using this
    have hfol : FolB (glue by_ ps ++ r) := by
      cases ps with
      | nil => exact hr
      | cons q ps => rw [mL]; exact hb _
    unfold pRow
    conv => lhs; rw [<- hj, List.append_assoc, hone p (hlen p (aOd ..)) (hk p (aOd ..)) _ hfol]
    dsimp only
    rw [aE6 hb ps (fun q hq r hr => hone q (hlen q (aOe _ hq)) (hk q (aOe _ hq)) r hr) m hps r hr hn]
    rfl
end
def FolO (r : List aA) : Prop := r = [] ∨ ∃ w t, r = w :: t /\ (w = [124] ∨ w = [41])
theorem aKh : ∀ (N : Nat) (u : List aA), u.length <= N -> ∀ (n m : Nat), u.length < n -> u.length < m -> (gB n u).Kind ≠ 0 -> ∀ r, (r = [] ∨ ∃ t, r = [41] :: t) -> pAny m (u ++ r) = some (gB n u, r) := by
  intro N
  induction N using Nat.strongRecOn with
  | _ N ih =>
  intro u hu n m hn hm hk r hr
  obtain ⟨n, rfl⟩ : ∃ n', n = n' + 1 := ⟨n - 1, by omega⟩
  obtain ⟨m, rfl⟩ : ∃ m', m = m' + 1 := ⟨m - 1, by omega⟩
  refine aHe (FolB := FolO) (fun t => .inr ⟨[124], t, rfl, .inl rfl⟩) (f := fun p => rowX [38] (gL (gB n) (n + 1)) 5 p) hk (fun p hp hpk r1 hr1 => ?_) (m + 1) (by omega) r ?_ ?_
  · refine aHe (FolB := Fol) (fun t => .inr ⟨[38], t, rfl, .inl rfl⟩) (f := gL (gB n) (n + 1)) hpk (fun q hq hqk r2 hr2 => ?_) (m + 1) (by omega) r1 ?_ ?_
    · exact aHd (n + 1) q (fun mid hmid hmk t => ih mid.length (by omega) mid (aOg _) n m (by omega) (by omega) hmk _ (.inr ⟨t, rfl⟩)) hqk (m + 1) (by omega) r2 hr2
    · rcases hr1 with rfl | ⟨w, t, rfl, hw⟩
      · exact .inl rfl
      · exact .inr ⟨w, t, rfl, .inr hw⟩
    · intro w t e
      rcases hr1 with rfl | ⟨w', t', rfl, hw⟩
      · cases e
      · injection e with e _
        rw [<- e]
        rcases hw with rfl | rfl <;> decide
  · rcases hr with rfl | ⟨t, rfl⟩
    · exact .inl rfl
    · exact .inr ⟨[41], t, rfl, .inr rfl⟩
  · intro w t e
    rcases hr with rfl | ⟨t', rfl⟩
    · cases e
    · injection e with e _
      rw [<- e]; decide
theorem zH {l : List aA} {n m : Nat} (hn : l.length < n) (hm : l.length < m) (x : aB) : pAny m l = some (x, []) ↔ (gB n l = x /\ x.Kind ≠ 0) := by
  constructor
  · intro h
    obtain ⟨n, rfl⟩ : ∃ n', n = n' + 1 := ⟨n - 1, by omega⟩
    obtain ⟨u, hu⟩ := aKg n l x [] m (by omega) h
    have := hu.eq
    rw [aOx] at this
    subst this
    exact ⟨hu.val, hu.kind⟩
  · rintro ⟨rfl, hk⟩
    have := aKh l.length l (aOg _) n m hn hm hk [] (.inl rfl)
    rwa [aOx] at this
theorem aDe (w : aA) : -1 <= opn w /\ opn w <= 1 := by
  unfold opn; split <;> split <;> omega
theorem aHf (w : aA) (o : Int) (ho : -100000 <= o /\ o <= 100000) {β : Type} (a : Int -> β) :
    (bif w == ([40] : aA) then (bif w == ([41] : aA) then a (IntKind.i64.wrap ((IntKind.i64.wrap (o + (1 : Int))) - (1 : Int))) else a (IntKind.i64.wrap (o + (1 : Int)))) else (bif w == ([41] : aA) then a (IntKind.i64.wrap (o - (1 : Int))) else a o)) = a (o + opn w) := by
  rw [wrap_i64 (n := o + 1) (by omega) (by omega), wrap_i64 (n := o - 1) (by omega) (by omega)]
  unfold opn
  by_cases h : w = [40]
  · subst h; rfl
  · have e : (w == ([40] : aA)) = false := by simpa using h
    rw [e, if_neg h]
    by_cases h1 : w = [41]
    · subst h1; rfl
    · have e1 : (w == ([41] : aA)) = false := by simpa using h1
      rw [e1, if_neg h1, Int.sub_zero, aOu]; rfl
def aB1 (l : List aA) (by_ : aA) (out : List (List aA)) (frm i : Nat) (w : aA) (o : Int) : Option (((List (List aA)) × Int × Int × Int) ⊕ ((List (List aA)) × Int)) :=
  bif (bif o == 0 then w == by_ else false) then (slc l (frm : Int) (i : Int)).bind fun x7 => (app 24 out ([x7] : List (List aA))).bind fun x8 => some (.inl (x8, ((i + 1 : Nat) : Int), o, ((i + 1 : Nat) : Int)))
  else some (.inl (out, (frm : Int), o, ((i + 1 : Nat) : Int)))
theorem aHg {l : List aA} {by_ : aA} (hl : l.length <= 50000) (out : List (List aA)) (frm i : Nat) (o : Int) (ho : -100000 <= o /\ o <= 100000) {w : aA} (hw : l[i]? = some w) :
    dJ l by_ (out, (frm : Int), o, (i : Int)) = aB1 l by_ out frm i w (o + opn w) := by
  unfold dJ
  simp only [aZ (aP hw), aNA, bZ hw, aOa]
  rw [bN (aP hw) (by unfold maxLen; omega)]
  exact aHf w o ho (aB1 l by_ out frm i w)
theorem aHh {l : List aA} {by_ : aA} (hl : l.length <= 50000) : ∀ (n i frm : Nat) (out : List (List aA)) (o : Int), n + i = l.length -> frm <= i -> out.length <= i -> -(i : Int) <= o /\ o <= (i : Int) -> ∃ out' frm', aQ (dJ l by_) (out, (frm : Int), o, (i : Int)) = some (out', ((frm' : Nat) : Int)) /\ frm' <= l.length /\ out'.length <= l.length /\ out' ++ [l.drop frm'] = out ++ nQ by_ o ((l.take i).drop frm) (l.drop i) := by
  intro n
  induction n with
  | zero =>
    intro i frm out o hn hf ho hoo
    have : i = l.length := by omega
    subst this
    refine ⟨out, frm, ?_, by omega, by omega, ?_⟩
    · rw [aR]
      unfold dJ
      simp only [cD, aNB]
    · rw [List.drop_length, nQ, List.take_length]
  | succ n ih =>
    intro i frm out o hn hf ho hoo
    have hlt : i < l.length := by omega
    have hx := aOf hlt
    have hd := aOs hlt
    have ht : l.take (i + 1) = l.take i ++ [l[i]] := by rw [List.take_add_one, hx]; rfl
    generalize l[i] = w at hx hd ht
    have hr := aDe w
    rw [aR, aHg hl out frm i o (by omega) hx, hd, nQ]
    unfold aB1
    by_cases h : o + opn w = 0 /\ w = by_
    · have e : (bif o + opn w == 0 then w == by_ else false) = true := by rw [h.1, h.2]; simp
      rw [e, aNA, if_pos h, n9 l frm i hf (by omega), aOa, pQ (by simp; omega) (by omega), aOa]
      obtain ⟨out', frm', h1, h2, h3, h4⟩ := ih (i + 1) (i + 1) (out ++ [(l.take i).drop frm]) (o + opn w) (by omega) (aOg _) (by simp; omega) (by omega)
      refine ⟨out', frm', h1, h2, h3, ?_⟩
      have hnil : (l.take (i + 1)).drop (i + 1) = [] := List.drop_eq_nil_of_le (by rw [aOq]; omega)
      rw [h4, hnil, List.append_assoc]; rfl
    · have e : (bif o + opn w == 0 then w == by_ else false) = false := by
        by_cases h0 : o + opn w = 0
        · rw [h0]
          have : w ≠ by_ := fun hh => h ⟨h0, hh⟩
          simpa using this
        · have : (o + opn w == 0) = false := by simpa using h0
          rw [this]; rfl
      rw [e, aNB, if_neg h]
      obtain ⟨out', frm', h1, h2, h3, h4⟩ := ih (i + 1) frm out (o + opn w) (by omega) (by omega) (by omega) (by omega)
      refine ⟨out', frm', h1, h2, h3, ?_⟩
      rw [h4, ht, List.drop_append_of_le_length (by rw [aOq]; omega)]
theorem aDf {l : List aA} {by_ : aA} (hl : l.length <= 50000) : iD l by_ = some (nQ by_ 0 [] l) := by
  unfold iD
  obtain ⟨out', frm', h1, h2, h3, h4⟩ := aHh (by_ := by_) hl l.length 0 0 [] 0 rfl (aOg _) (aOj _) (by omega)
  rw [show (([] : List (List aA)), (0 : Int), (0 : Int), (0 : Int)) = (([] : List (List aA)), ((0 : Nat) : Int), (0 : Int), ((0 : Nat) : Int)) from rfl, h1, aOa]
  dsimp only
  rw [jV l frm' h2, aOa, pQ (by simp; omega) (by omega), aOa, h4]
  simp
theorem aEg {l : List aA} (hl : l.length <= 50000) (i : Nat) (o : Int) (ho : -100000 <= o /\ o <= 100000) {w : aA} (hw : l[i]? = some w) :
    cV l (o, (i : Int)) = bif o + opn w == 0 then some (.inr (Nat.beq (i + 1) l.length)) else some (.inl (o + opn w, ((i + 1 : Nat) : Int))) := by
  have hlt := aP hw
  unfold cV
  simp only [aZ hlt, aNA, bZ hw, aOa]
  rw [bN hlt (by unfold maxLen; omega), wrap_i64 (n := (l.length : Int) - 1) (by omega) (by omega)]
  have e : ((i : Int) == (l.length : Int) - (1 : Int)) = Nat.beq (i + 1) l.length := by
    rw [aOr, beq_iff_eq, Nat.beq_eq]; omega
  rw [e]
  exact aHf w o ho (fun v => bif v == 0 then (some (.inr (Nat.beq (i + 1) l.length)) : Option ((Int × Int) ⊕ Bool)) else some (.inl (v, ((i + 1 : Nat) : Int))))
theorem aEh {l : List aA} (hl : l.length <= 50000) : gG l = some (lG 0 l) := by
  unfold gG
  have key : ∀ (n i : Nat) (o : Int), n + i = l.length -> -(i : Int) <= o /\ o <= (i : Int) -> aQ (cV l) (o, (i : Int)) = some (lG o (l.drop i)) := by
    intro n
    induction n with
    | zero =>
      intro i o hn ho
      have : i = l.length := by omega
      subst this
      rw [aR, List.drop_length]
      unfold cV
      simp only [cD, aNB]; rfl
    | succ n ih =>
      intro i o hn ho
      have hlt : i < l.length := by omega
      have hx := aOf hlt
      have hd := aOs hlt
      generalize l[i] = w at hx hd
      have hr := aDe w
      rw [aR, aEg hl i o (by omega) hx, hd, lG]
      by_cases h0 : o + opn w = 0
      · rw [h0, if_pos rfl]
        show some _ = some _
        congr 1
        rw [aOr, Nat.beq_eq, List.isEmpty_iff, List.drop_eq_nil_iff]; omega
      · have e : (o + opn w == 0) = false := by simpa using h0
        rw [e, if_neg h0, aNB]
        exact ih (i + 1) (o + opn w) (by omega) (by omega)
  have := key l.length 0 0 rfl (by omega)
  rwa [aOp] at this
def ZK (x : aB) : Prop := x.Kind = 0 -> x = fT
theorem tI (wh : List aA -> aB) (hw : ∀ l, ZK (wh l)) : ∀ (m : Nat) (l : List aA), ZK (gL wh m l) := by
  intro m
  induction m with
  | zero => intro l _; rfl
  | succ m ih =>
    intro l
    cases l with
    | nil => intro _; rfl
    | cons w l =>
      rw [kG]
      by_cases h33 : w = [33]
      · rw [if_pos h33]
        by_cases hk : (gL wh m l).Kind = 0
        · rw [if_pos hk]; intro _; rfl
        · rw [if_neg hk]; intro h; exact absurd (show (4 : Int) = 0 from h) (by decide)
      · rw [if_neg h33]
        by_cases h40 : w = [40]
        · rw [if_pos h40]
          split
          · exact hw _
          · intro _; rfl
        · rw [if_neg h40]
          match l with
          | [] => exact aFZ w
          | [g] => intro _; rfl
          | [g, w2] =>
            dsimp only
            split
            · split
              · intro _; rfl
              · intro h; exact absurd (show (7 : Int) = 0 from h) (by decide)
            · intro _; rfl
          | g :: w2 :: a :: b => intro _; rfl
theorem aB2 {by_ : aA} {f : List aA -> aB} {kind : Int} (hk : kind ≠ 0) (hf : ∀ l, ZK (f l)) (l : List aA) : ZK (rowX by_ f kind l) := by
  unfold rowX
  obtain ⟨p, ps, hp⟩ := rB by_ l 0 []
  rw [hp]
  split
  · intro _; rfl
  · rename_i h
    rw [aOv, aOy] at h
    intro h0
    have := h p (aOd ..)
    exact absurd h0 (aA7 hk (by simpa using this) _)
theorem wN : ∀ (n : Nat) (l : List aA), ZK (gB n l) := by
  intro n
  induction n with
  | zero => intro l _; rfl
  | succ n ih => intro l; exact aB2 (by decide) (fun l => aB2 (by decide) (tI _ ih _) l) l
theorem aF0 {rec_ : List aA -> Option aB} {wh : List aA -> aB} (hz : ∀ l, ZK (wh l)) {N : Nat} (hN : N <= 50000) (hr : ∀ l, l.length < N -> (∀ w, w ∈ l -> TokG w) -> rec_ l = some (wh l)) :
    ∀ (m M : Nat) (l : List aA), l.length <= N -> l.length < m -> l.length < M -> (∀ w, w ∈ l -> TokG w) -> dL rec_ M l = some (gL wh m l) := by
  intro m
  induction m with
  | zero => intro M l _ h; omega
  | succ m ih =>
    intro M l hl hm hM hw
    obtain ⟨M, rfl⟩ : ∃ M', M = M' + 1 := ⟨M - 1, by omega⟩
    show fX rec_ (dL rec_ M) l = _
    unfold fX
    cases l with
    | nil => rfl
    | cons w l =>
      rw [aOb] at hl hm hM
      have hwl : ∀ x, x ∈ l -> TokG x := fun x hx => hw x (aOe _ hx)
      have e0 : ((((w :: l).length : Nat) : Int) == (0 : Int)) = false := by rw [aOb]; simp; omega
      have i0 : idx (w :: l) (0 : Int) = some w := rfl
      have st : slc (w :: l) (1 : Int) (((w :: l).length : Nat) : Int) = some l := by
        have := jV (w :: l) 1 (by simp)
        rwa [aOw, aOp] at this
      rw [e0, aNB, i0, aOa, kG]
      by_cases h33 : w = [33]
      · have e : (w == ([33] : aA)) = true := by rw [h33]; rfl
        rw [e, aNA, st, aOa, ih M l (by omega) (by omega) (by omega) hwl, aOa, if_pos h33]
        by_cases hk : (gL wh m l).Kind = 0
        · rw [if_pos hk, hk]
          have := tI wh hz m l hk
          rw [this]; rfl
        · have e2 : ((gL wh m l).Kind == 0) = false := by simpa using hk
          rw [if_neg hk, e2]; rfl
      · have e : (w == ([33] : aA)) = false := by simpa using h33
        rw [e, aNB, aOa, if_neg h33]
        by_cases h40 : w = [40]
        · have e4 : (w == ([40] : aA)) = true := by rw [h40]; rfl
          rw [e4, aNA, if_pos h40]
          by_cases h2 : 2 < l.length + 1
          · have eg : decide ((((w :: l).length : Nat) : Int) > (2 : Int)) = true := decide_eq_true (by rw [aOb]; omega)
            rw [eg, eR rfl, aEh (by rw [aOb]; omega), aOa, aNA]
            cases hc : lG 0 (w :: l) with
            | false => rw [if_neg (fun h => by have := h.2; cases this)]; rfl
            | true =>
              rw [if_pos ⟨h2, rfl⟩, aNA]
              have ew : IntKind.i64.wrap ((((w :: l).length : Nat) : Int) - (1 : Int)) = ((l.length : Nat) : Int) := by rw [aOb, wrap_i64 (by omega) (by omega)]; omega
              rw [ew, show slc (w :: l) (1 : Int) ((l.length : Nat) : Int) = _ from n9 (w :: l) 1 l.length (by omega) (by rw [aOb]; omega), aOa]
              have et : ((w :: l).take l.length).drop 1 = l.take (l.length - 1) := by
                obtain ⟨k, hk⟩ : ∃ k, l.length = k + 1 := ⟨l.length - 1, by omega⟩
                rw [hk, aOo, aOw, aOp, Nat.add_sub_cancel]
              rw [et, hr _ (by rw [aOq]; omega) (fun x hx => hwl x (List.mem_of_mem_take hx)), aOa]
          · have eg : decide ((((w :: l).length : Nat) : Int) > (2 : Int)) = false := decide_eq_false (by rw [aOb]; omega)
            rw [eg, aBB rfl, aOa, if_neg (fun h => h2 h.1)]; rfl
        · have e4 : (w == ([40] : aA)) = false := by simpa using h40
          rw [e4, aNB, if_neg h40]
          have hlw := aC5 (hw w (aOd ..))
          match l, hwl with
          | [], _ =>
            show (((cR w).bind fun x9 => some x9)) = _
            rw [hlw]; rfl
          | [g], _ => rfl
          | [g, w2], hwl =>
            show ((gidx true [w, g, w2] (1 : Int)).bind fun x10 => (fU true (d3 x10)).bind fun x11 => _) = _
            rw [uP rfl, show idx [w, g, w2] (1 : Int) = some g from rfl, aOa, eR rfl, aC6, aOa]
            dsimp only
            cases hg : gF g with
            | false => rfl
            | true =>
              show (((cR w).bind fun x13 => (idx [w, g, w2] (2 : Int)).bind fun x14 => (cR x14).bind fun x15 => _)) = _
              rw [hlw, aOa, show idx [w, g, w2] (2 : Int) = some w2 from rfl, aOa, aC5 (hwl w2 (by simp)), aOa]
              by_cases k1 : (dS w).Kind = 0
              · rw [if_pos rfl, if_pos (.inl k1), k1]; rfl
              · have ek1 : ((dS w).Kind == 0) = false := by simpa using k1
                by_cases k2 : (dS w2).Kind = 0
                · rw [if_pos rfl, if_pos (.inr k2), ek1, k2]; rfl
                · have ek2 : ((dS w2).Kind == 0) = false := by simpa using k2
                  rw [if_pos rfl, if_neg (fun h => h.elim k1 k2), ek1, ek2]; rfl
          | g :: w2 :: a :: b, _ =>
            have el : ((((w :: g :: w2 :: a :: b).length : Nat) : Int) == (1 : Int)) = false := by simp only [aOb]; simp; omega
            have el3 : ((((w :: g :: w2 :: a :: b).length : Nat) : Int) != (3 : Int)) = true := by simp only [aOb]; simp; omega
            rw [el, el3]; rfl
theorem aHi {by_ : aA} {f : List aA -> aB} {kind : Int} {ps : List (List aA)} {body : Int × aB -> Option ((Int × aB) ⊕ aB)} (hps : 1 <= ps.length /\ ps.length <= 50001) (hz : ∀ l, ZK (f l))
    (hs : ∀ (i : Nat) (p : List aA) (xs : List aB), ps[i]? = some p -> xs.length <= i -> body ((i : Int), aB.mk kind 0 [] [] xs) = bif (f p).Kind == 0 then some (.inr (f p)) else some (.inl (((i + 1 : Nat) : Int), aB.mk kind 0 [] [] (xs ++ [f p]))))
    (hf : ∀ (xs : List aB), xs.length = ps.length -> body ((ps.length : Int), aB.mk kind 0 [] [] xs) = bif ((ps.length : Int) == (1 : Int)) then (idx xs (0 : Int)).bind fun x9 => some (.inr x9) else some (.inr (aB.mk kind 0 [] [] xs))) :
    aQ body ((0 : Int), aB.mk kind 0 [] [] []) = some (if ps.any (fun p => (f p).Kind == 0) = true then fT else aBV kind ((ps.map f).headD fT) ((ps.map f).drop 1)) := by
  have key : ∀ (n i : Nat), n + i = ps.length -> (∀ p, p ∈ ps.take i -> ((f p).Kind == 0) = false) -> aQ body ((i : Int), aB.mk kind 0 [] [] ((ps.take i).map f)) = some (if ps.any (fun p => (f p).Kind == 0) = true then fT else aBV kind ((ps.map f).headD fT) ((ps.map f).drop 1)) := by
    intro n
    induction n with
    | zero =>
      intro i hn hall
      have : i = ps.length := by omega
      subst this
      rw [List.take_length] at hall ⊢
      rw [aR, hf _ (by simp), if_neg (by rw [aOv, aOy]; intro p hp; rw [hall p hp]; simp)]
      unfold aBV
      match ps, hps with
      | [p], _ => rfl
      | p :: q :: r, _ =>
        have e : ((((p :: q :: r).length : Nat) : Int) == (1 : Int)) = false := by simp only [aOb]; simp; omega
        rw [e]; rfl
    | succ n ih =>
      intro i hn hall
      have hlt : i < ps.length := by omega
      have hx := aOf hlt
      have hmem := List.getElem_mem hlt
      have ht : ps.take (i + 1) = ps.take i ++ [ps[i]] := by rw [List.take_add_one, hx]; rfl
      generalize ps[i] = p at hx ht hmem
      rw [aR, hs i p _ hx (by simp; omega)]
      cases hk : (f p).Kind == 0 with
      | true =>
        rw [aNA, if_pos (List.any_eq_true.2 ⟨p, hmem, hk⟩), hz p (eq_of_beq hk)]
      | false =>
        have := ih (i + 1) (by omega) (fun q hq => by
          rw [ht] at hq
          rcases List.mem_append.1 hq with hq | hq
          · exact hall q hq
          · rw [List.mem_singleton.1 hq]; exact hk)
        rw [ht, List.map_append] at this
        exact this
  have := key ps.length 0 rfl (fun p hp => by simp at hp)
  exact this
theorem oZ (by_ : aA) : ∀ (l : List aA) (o : Int) (cur : List aA), (nQ by_ o cur l).length <= l.length + 1 /\ ∀ p, p ∈ nQ by_ o cur l -> p.length <= cur.length + l.length /\ ∀ w, w ∈ p -> w ∈ cur ∨ w ∈ l
  | [], o, cur => by rw [nQ]; exact ⟨by simp, fun p hp => by rw [List.mem_singleton.1 hp]; exact ⟨by simp, fun w hw => .inl hw⟩⟩
  | w :: l, o, cur => by
    rw [nQ]
    split
    · obtain ⟨h1, h2⟩ := oZ by_ l (o + opn w) []
      refine ⟨by rw [aOb, aOb]; omega, fun p hp => ?_⟩
      rcases List.mem_cons.1 hp with rfl | hp
      · exact ⟨by omega, fun w hw => .inl hw⟩
      · obtain ⟨h3, h4⟩ := h2 p hp
        rw [List.length_nil] at h3
        refine ⟨by rw [aOb]; omega, fun v hv => ?_⟩
        rcases h4 v hv with h | h
        · cases h
        · exact .inr (aOe _ h)
    · obtain ⟨h1, h2⟩ := oZ by_ l (o + opn w) (cur ++ [w])
      refine ⟨by rw [aOb]; omega, fun p hp => ?_⟩
      obtain ⟨h3, h4⟩ := h2 p hp
      rw [aOc, aOh] at h3
      refine ⟨by rw [aOb]; omega, fun v hv => ?_⟩
      rcases h4 v hv with h | h
      · rcases List.mem_append.1 h with h | h
        · exact .inl h
        · rw [List.mem_singleton.1 h]; exact .inr (aOd ..)
      · exact .inr (aOe _ h)
theorem aF1 : ∀ (n M : Nat) (l : List aA), l.length <= 40000 -> l.length < n -> l.length < M -> (∀ w, w ∈ l -> TokG w) -> a8 M l = some (gB n l) := by
  intro n
  induction n with
  | zero => intro M l _ h; omega
  | succ n ih =>
    intro M l hl hn hM hw
    obtain ⟨M, rfl⟩ : ∃ M', M = M' + 1 := ⟨M - 1, by omega⟩
    show fY (a8 M) l = _
    unfold fY
    rw [xA]
    -- a row of '&'
    have hand : ∀ (p : List aA), p.length <= l.length -> (∀ w, w ∈ p -> TokG w) -> ∀ k, dN (a8 M) (k + 1) p [38] 5 = some (rowX [38] (gL (gB n) (n + 1)) 5 p) := by
      intro p hp hpw k
      show dM (a8 M) (dN (a8 M) k) p [38] 5 = _
      unfold dM
      rw [aDf (by omega), aOa]
      obtain ⟨q1, q2⟩ := oZ [38] p 0 []
      obtain ⟨p0, ps0, hps0⟩ := rB [38] p 0 []
      have hne : 1 <= (nQ [38] 0 [] p).length := by rw [hps0]; simp
      refine aHi (by_ := [38]) (f := gL (gB n) (n + 1)) ⟨hne, by omega⟩ (tI _ (wN n) _) (fun i q xs hx hxs => ?_) (fun xs hxs => ?_)
      · have hq := q2 q (aOi hx)
        rw [List.length_nil] at hq
        have hqw : ∀ w, w ∈ q -> TokG w := fun w hwq => (hq.2 w hwq).elim (fun h => by cases h) (hpw w)
        have hb := aF0 (rec_ := a8 M) (wh := gB n) (wN n) (N := l.length) (by omega) (fun l' hl' hw' => ih M l' (by omega) (by omega) (by omega) hw') (n + 1) 1000000 q (by omega) (by omega) (by omega) hqw
        have hlt := aP hx
        unfold dB
        simp only [aZ hlt, aNA, bZ hx, aOa]
        rw [show (([38] : aA) == ([124] : aA)) = false from rfl, aNB]
        show ((dL (a8 M) 1000000 q).bind _) = _
        rw [hb, aOa, pQ (by simp; omega) (by omega), bN hlt (by unfold maxLen; omega)]
        rfl
      · unfold dB
        simp only [cD, aNB]
    show dM (a8 M) (dN (a8 M) 999999) l [124] 6 = _
    unfold dM
    rw [aDf (by omega), aOa]
    obtain ⟨q1, q2⟩ := oZ [124] l 0 []
    obtain ⟨p0, ps0, hps0⟩ := rB [124] l 0 []
    have hne : 1 <= (nQ [124] 0 [] l).length := by rw [hps0]; simp
    refine aHi (by_ := [124]) (f := fun p => rowX [38] (gL (gB n) (n + 1)) 5 p) ⟨hne, by omega⟩ (fun p => aB2 (by decide) (tI _ (wN n) _) p) (fun i q xs hx hxs => ?_) (fun xs hxs => ?_)
    · have hq := q2 q (aOi hx)
      rw [List.length_nil] at hq
      have hqw : ∀ w, w ∈ q -> TokG w := fun w hwq => (hq.2 w hwq).elim (fun h => by cases h) (hw w)
      have hlt := aP hx
      unfold dB
      simp only [aZ hlt, aNA, bZ hx, aOa]
      rw [show (([124] : aA) == ([124] : aA)) = true from rfl, aNA, hand q (by omega) hqw 999998, aOa, pQ (by simp; omega) (by omega), bN hlt (by unfold maxLen; omega)]
      rfl
    · unfold dB
      simp only [cD, aNB]
structure TokS (w : aA) : Prop where
  good : TokG w
  quo : w.head? = some 39 -> ∃ a, w = 39 :: (a ++ [39]) /\ a.contains 39 = false
  ref : refN w > 0 -> refN w = (w.length : Int)
theorem aIO {s w s' : aA} (hs : s.length <= 100000) (h : nxt s = some (w, s')) : TokS w := by
  have hg := aJ4 hs h
  obtain ⟨_, h1, h2, _, h3, h4⟩ := gN h
  cases hu : skip s with
  | nil => rw [hu] at h4; exact absurd rfl h4
  | cons c t =>
    rw [hu] at h3 h4
    have hwn := kT c t
    refine ⟨hg, fun hq => ?_, fun hr => ?_⟩
    · have hc : c = 39 := by
        rw [h3, List.head?_take, if_neg h4] at hq
        injection hq
      subst hc
      rw [show ((39 : UInt8) == 39) = true from rfl, aNA] at hwn
      cases hcc : (cutC 39 t).2.2 with
      | false => rw [hcc, aNB] at hwn; exact absurd hwn h4
      | true =>
        rw [hcc, aNA] at hwn
        refine ⟨(cutC 39 t).1, ?_, xQ 39 t hcc⟩
        rw [h3, hwn, aOo]
        congr 1
        conv => lhs; arg 2; rw [vK 39 t hcc]
        rw [show (cutC 39 t).1 ++ 39 :: (cutC 39 t).2.1 = ((cutC 39 t).1 ++ [39]) ++ (cutC 39 t).2.1 by simp, List.take_left' (by simp)]
    · have h36 : c = 36 := by
        cases hh : aW w [36] with
        | false => rw [oY hh] at hr; omega
        | true =>
          obtain ⟨t', ht'⟩ := mI hh
          obtain ⟨k, hk⟩ : ∃ k, fQ (c :: t) = k + 1 := ⟨fQ (c :: t) - 1, by omega⟩
          rw [h3, hk, aOo] at ht'
          injection ht'
      subst h36
      cases hr0 : decide (refN (36 :: t) > 0) with
      | false =>
        exfalso
        rw [hr0] at hwn
        have : fQ (36 :: t) = 0 := by
          rw [hwn]
          show (bif (t.head? == some 61) && false then 2 else 0) = 0
          rw [Bool.and_false]; rfl
        exact h4 this
      | true =>
        obtain ⟨p, v, hp, e1, e2⟩ := yX (of_decide_eq_true hr0)
        have hw : fQ (36 :: t) = p.length := by
          rw [hwn, hr0]
          show (refN (36 :: t)).toNat = _
          rw [e2]; simp
        have hwp : w = p := by rw [h3, hw, e1, List.take_left' rfl]
        have := aGU hp []
        rw [aOx] at this
        rw [hwp, this]
theorem aHj : ∀ (n : Nat) (s : aA), s.length <= n -> s.length <= 100000 -> ∀ w, w ∈ (lexW s).1 -> TokS w := by
  intro n
  induction n with
  | zero =>
    intro s hs _ w hw
    have : s = [] := List.eq_nil_of_length_eq_zero (by omega)
    subst this
    rw [q6] at hw; cases hw
  | succ n ih =>
    intro s hs hb w hw
    cases hn : nxt s with
    | none => rw [nE hn] at hw; cases hw
    | some p =>
      obtain ⟨w', s'⟩ := p
      obtain ⟨hl, _, _, hlen, _⟩ := gN hn
      rw [hl] at hw
      rcases List.mem_cons.1 hw with rfl | hw
      · exact aIO hb hn
      · exact ih s' (by omega) (by omega) w hw
theorem zI : ∀ (n : Nat) (s : aA), s.length <= n -> (lexW s).1.length <= s.length := by
  intro n
  induction n with
  | zero =>
    intro s hs
    have : s = [] := List.eq_nil_of_length_eq_zero (by omega)
    subst this
    rw [q6]; exact aOg _
  | succ n ih =>
    intro s hs
    cases hn : nxt s with
    | none => rw [nE hn]; simp
    | some p =>
      obtain ⟨w', s'⟩ := p
      obtain ⟨hl, _, _, hlen, _⟩ := gN hn
      rw [hl, aOb]
      have := ih s' (by omega)
      show (lexW s').1.length + 1 <= _
      omega
def Fine (x : aB) : Prop := wl x = true /\ KOk x
theorem aHk (w : aA) : -1099511627776 <= (sgn w).1 /\ (sgn w).1 <= 1099511627776 := by
  unfold sgn
  have h1 := sI w
  have h2 := sI (w.drop 1)
  cases aW w [45] with
  | true => dsimp only [aNA]; omega
  | false => dsimp only [aNB]; omega
theorem zJ {w : aA} (h : TokS w) (hk : (dS w).Kind ≠ 0) : Fine (dS w) /\ kF (dS w) = true := by
  have hm : w.length <= maxLen := by have := h.good.len; unfold maxLen; omega
  have mk : ∀ (k n : Int) (t : aA), t.length <= maxLen -> kF (aB.mk k n t [] []) = true -> qB (aB.mk k n t [] []) = true -> Fine (aB.mk k n t [] []) /\ kF (aB.mk k n t [] []) = true := fun k n t ht h1 h2 =>
    ⟨⟨by rw [aEe, h1, aNA, h2], .mk _ (aOj _) (fun k hk => by cases hk) ht⟩, h1⟩
  unfold dS at hk ⊢
  cases h39 : w.head? == some 39 with
  | true =>
    obtain ⟨a, ha, hc⟩ := h.quo (eq_of_beq h39)
    rw [aNA]
    have e : ((w.drop 1).take (w.length - 2)) = a := by
      rw [ha]
      simp only [aOw, aOp, aOb, aOc, List.length_nil]
      rw [show a.length + (0 + 1) + 1 - 2 = a.length by omega, List.take_left' rfl]
    rw [e]
    have hal : a.length <= maxLen := by
      have := congrArg List.length ha
      simp at this
      have : w.length <= maxLen := hm
      omega
    refine mk 2 0 a hal rfl ?_
    show (true && true && (true && !(a.contains 39))) = true
    rw [hc]; rfl
  | false =>
    rw [h39, aNB] at hk
    rw [aNB]
    cases hr : decide (refN w > 0) with
    | true =>
      rw [aNA]
      refine mk 3 0 w hm rfl ?_
      show (true && true && (true && decide (refN w > 0) && (refN w == (w.length : Int)))) = true
      rw [hr, h.ref (of_decide_eq_true hr)]; simp
    | false =>
      rw [hr, aNB] at hk
      rw [aNB]
      cases hs : (sgn w).2 == 0 with
      | false => rw [hs] at hk; exact absurd rfl hk
      | true =>
        rw [aNA]
        have hrg := aHk w
        refine mk 1 (sgn w).1 [] (aOj _) rfl ?_
        show (true && true && (true && decide ((sgn w).1 ≥ -1099511627776) && decide ((sgn w).1 <= 1099511627776))) = true
        rw [decide_eq_true hrg.1, decide_eq_true hrg.2]; rfl
theorem zK {k : Int} {s : aA} {kids : List aB} (hs : kF (aB.mk k 0 [] s kids) = false) (hn : aDc (aB.mk k 0 [] s kids) = true) (hl : kids.length <= maxLen) (h : ∀ x, x ∈ kids -> Fine x) : Fine (aB.mk k 0 [] s kids) := by
  refine ⟨?_, .mk _ hl (fun x hx => (h x hx).2) (aOj _)⟩
  rw [aEe, hs, aNB, hn, uS]
  have : kids.all wl = true := List.all_eq_true.2 fun x hx => (h x hx).1
  show (true && true && kids.all wl && true) = true
  rw [this]; rfl
theorem aF2 {wh : List aA -> aB} (hw : ∀ l, l.length <= 100000 -> (∀ w, w ∈ l -> TokS w) -> (wh l).Kind ≠ 0 -> Fine (wh l)) : ∀ (m : Nat) (l : List aA), l.length <= 100000 -> (∀ w, w ∈ l -> TokS w) -> (gL wh m l).Kind ≠ 0 -> Fine (gL wh m l) := by
  intro m
  induction m with
  | zero => intro l _ _ h; exact absurd rfl h
  | succ m ih =>
    intro l hl ht h
    cases l with
    | nil => exact absurd rfl h
    | cons w l =>
      rw [aOb] at hl
      have htl : ∀ x, x ∈ l -> TokS x := fun x hx => ht x (aOe _ hx)
      rw [kG] at h ⊢
      by_cases h33 : w = [33]
      · rw [if_pos h33] at h ⊢
        by_cases hk : (gL wh m l).Kind = 0
        · rw [if_pos hk] at h; exact absurd rfl h
        · rw [if_neg hk]
          exact zK rfl rfl (by simp [maxLen]) fun x hx => by rw [List.mem_singleton.1 hx]; exact ih l (by omega) htl hk
      · rw [if_neg h33] at h ⊢
        by_cases h40 : w = [40]
        · rw [if_pos h40] at h ⊢
          by_cases hc : 2 < l.length + 1 /\ lG 0 (w :: l) = true
          · rw [if_pos hc] at h ⊢
            exact hw _ (by rw [aOq]; omega) (fun x hx => htl x (List.mem_of_mem_take hx)) h
          · rw [if_neg hc] at h; exact absurd rfl h
        · rw [if_neg h40] at h ⊢
          match l, htl with
          | [], _ => exact (zJ (ht w (aOd ..)) h).1
          | [g], _ => exact absurd rfl h
          | [g, w2], htl =>
            dsimp only at h ⊢
            by_cases hg : gF g = true
            · rw [if_pos hg] at h ⊢
              by_cases hk : (dS w).Kind = 0 ∨ (dS w2).Kind = 0
              · rw [if_pos hk] at h; exact absurd rfl h
              · rw [if_neg hk]
                have f1 := zJ (ht w (aOd ..)) (fun e => hk (.inl e))
                have f2 := zJ (htl w2 (by simp)) (fun e => hk (.inr e))
                refine zK rfl ?_ (by simp [maxLen]) fun x hx => ?_
                · show (gF g && true && (kF (dS w) && (kF (dS w2) && true))) = true
                  rw [hg, f1.2, f2.2]; rfl
                · rcases List.mem_cons.1 hx with rfl | hx
                  · exact f1.1
                  · rw [List.mem_singleton.1 hx]; exact f2.1
            · rw [if_neg hg] at h; exact absurd rfl h
          | g :: w2 :: a :: b, _ => exact absurd rfl h
theorem aE7 {by_ : aA} {f : List aA -> aB} {kind : Int} (hkk : kind = 5 ∨ kind = 6) {l : List aA} (hl : l.length <= 100000) (hf : ∀ p, p.length <= l.length -> (∀ w, w ∈ p -> w ∈ l) -> (f p).Kind ≠ 0 -> Fine (f p)) (h : (rowX by_ f kind l).Kind ≠ 0) : Fine (rowX by_ f kind l) := by
  unfold rowX at h ⊢
  obtain ⟨q1, q2⟩ := oZ by_ l 0 []
  obtain ⟨p, ps, hp⟩ := rB by_ l 0 []
  rw [hp] at h q1 q2 ⊢
  by_cases ha : (p :: ps).any (fun p => (f p).Kind == 0) = true
  · rw [if_pos ha] at h; exact absurd rfl h
  · rw [if_neg ha]
    rw [aOv, aOy] at ha
    have each : ∀ q, q ∈ p :: ps -> Fine (f q) := fun q hq => by
      obtain ⟨h1, h2⟩ := q2 q hq
      rw [List.length_nil] at h1
      exact hf q (by omega) (fun w hw => (h2 w hw).elim (fun h => by cases h) id) (by have := ha q hq; simpa using this)
    unfold aBV
    cases ps with
    | nil => exact each p (aOd ..)
    | cons q ps =>
      show Fine (aB.mk kind 0 [] [] (f p :: (q :: ps).map f))
      refine zK ?_ ?_ ?_ fun x hx => ?_
      · rcases hkk with rfl | rfl <;> rfl
      · rcases hkk with rfl | rfl <;> rfl
      · rw [aOb, List.length_map]
        simp only [aOb] at q1 ⊢
        unfold maxLen; omega
      · rcases List.mem_cons.1 hx with rfl | hx
        · exact each p (aOd ..)
        · obtain ⟨q', hq', rfl⟩ := List.mem_map.1 hx
          exact each q' (aOe _ hq')
theorem aA8 : ∀ (n : Nat) (l : List aA), l.length <= 100000 -> (∀ w, w ∈ l -> TokS w) -> (gB n l).Kind ≠ 0 -> Fine (gB n l) := by
  intro n
  induction n with
  | zero => intro l _ _ h; exact absurd rfl h
  | succ n ih =>
    intro l hl ht h
    refine aE7 (.inr rfl) hl (fun p hp hpw hpk => ?_) h
    refine aE7 (.inl rfl) (by omega) (fun q hq hqw hqk => ?_) hpk
    exact aF2 ih _ q (by omega) (fun w hw => ht w (hpw w (hqw w hw))) hqk
theorem aJw : ∀ (n : Nat) (x : aB), sz x <= n -> wl x = true -> w9 x := by
  intro n
  induction n with
  | zero => intro x h; have := uK x; omega
  | succ n ih =>
    intro x h hw
    have hs := aAx x
    rw [aEe] at hw
    cases hsim : kF x with
    | true =>
      rw [hsim, aNA] at hw
      unfold qB at hw
      simp only [aOk, List.isEmpty_iff] at hw
      have hk := hw.1.2
      refine .mk x (fun h4 => ?_) (fun k hkm => by rw [hk] at hkm; cases hkm)
      unfold kF at hsim
      rw [eq_of_beq h4] at hsim
      exact absurd hsim (by decide)
    | false =>
      rw [hsim, aNB] at hw
      simp only [aOk] at hw
      refine .mk x (fun h4 => ?_) (fun k hkm => ?_)
      · have hn := hw.2
        unfold aDc at hn
        have h7 : (x.Kind == 7) = false := by rw [eq_of_beq h4]; rfl
        rw [h7, aNB, h4, aNA, aOk] at hn
        intro h0
        rw [h0] at hn
        exact absurd hn.2 (by decide)
      · have hall := hw.1.2
        rw [uS, List.all_eq_true] at hall
        have := sO hkm
        exact ih k (by omega) (hall k hkm)
def parX (s : aA) : aB × Int :=
  bif decide (s.length > 400) then (fT, 2) else
  bif !(lexW s).2 || ((gB ((lexW s).1.length + 1) (lexW s).1).Kind == 0) then (fT, 50) else
  bif !decide (sz (gB ((lexW s).1.length + 1) (lexW s).1) <= 60) then (fT, 4) else
  bif decide (dp (gB ((lexW s).1.length + 1) (lexW s).1) > 16) then (fT, 5) else (gB ((lexW s).1.length + 1) (lexW s).1, 0)
theorem aHl (n : Nat) : decide ((((mn61 n : Nat) : Int)) > (60 : Int)) = !decide (n <= 60) := by
  unfold mn61
  by_cases h : n <= 60
  · rw [if_pos h, decide_eq_true h, decide_eq_false (by omega)]; rfl
  · rw [if_neg h, decide_eq_false h]; rfl
theorem aEi (s : aA) : gX s = some (parX s) := by
  unfold gX parX
  have e : decide ((s.length : Int) > (400 : Int)) = decide (s.length > 400) := by rw [aOr, decide_eq_true_eq, decide_eq_true_eq]; omega
  rw [e]
  by_cases h4 : s.length > 400
  · rw [decide_eq_true h4]; rfl
  · rw [decide_eq_false h4, aNB, aNB, aII (by omega), aOa]
    have htok := aHj s.length s (aOg _) (by omega)
    have hcnt := zI s.length s (aOg _)
    rw [show lR (lexW s).1 = _ from aF1 ((lexW s).1.length + 1) 1000000 (lexW s).1 (by omega) (by omega) (by omega) (fun w hw => (htok w hw).good), aOa]
    generalize hx : gB ((lexW s).1.length + 1) (lexW s).1 = x
    cases hok : (lexW s).2 with
    | false => rfl
    | true =>
      cases hk : x.Kind == 0 with
      | true => rfl
      | false =>
        have hk' : x.Kind ≠ 0 := by simpa using hk
        have hf := aA8 ((lexW s).1.length + 1) (lexW s).1 (by omega) htok (by rw [hx]; exact hk')
        rw [hx] at hf
        show ((d6 x (60 : Int)).bind _) = _
        rw [aEc hf.2, aOa, aHl]
        show _ = some (bif !decide (sz x <= 60) then (fT, 4) else bif decide (dp x > 16) then (fT, 5) else (x, 0))
        by_cases h6 : sz x <= 60
        · rw [decide_eq_true h6, aOn, aNB, aNB, aE2 (by omega) (aJw _ x (aOg _) hf.1), aOa]
          cases decide (dp x > 16) <;> rfl
        · rw [decide_eq_false h6]; rfl
theorem aDg (s : aA) : p9 s = some (parX s) := by
  unfold p9 parX
  have e : decide ((s.length : Int) > (400 : Int)) = decide (s.length > 400) := by rw [aOr, decide_eq_true_eq, decide_eq_true_eq]; omega
  rw [e]
  by_cases h4 : s.length > 400
  · rw [decide_eq_true h4]; rfl
  · rw [decide_eq_false h4, aNB, aNB]
    have hcnt := zI s.length s (aOg _)
    obtain ⟨y, st, h1, h2⟩ := aJ8 1000 1000000 s (by omega) (by omega) (by omega)
    rw [show oQ (aC.mk s false) = _ from h1, aOa, yO, aOa]
    have hbad : ∀ (b : Bool) (s2 : aA), (b || !(skip s2 == ([] : aA))) = true -> (!(lexW s).2 || ((gB ((lexW s).1.length + 1) (lexW s).1).Kind == 0)) = true ->
        (bif (bif b then true else (!(skip s2 == ([] : aA)))) then some ((aB.mk (0 : Int) (0 : Int) ([] : aA) ([] : aA) ([] : List aB)), (50 : Int)) else
          ((pN y).bind fun x3 => bif (!x3) then some ((aB.mk (0 : Int) (0 : Int) ([] : aA) ([] : aA) ([] : List aB)), (4 : Int)) else (sG y).bind fun x4 => bif (decide (x4 > (16 : Int))) then some ((aB.mk (0 : Int) (0 : Int) ([] : aA) ([] : aA) ([] : List aB)), (5 : Int)) else some (y, (0 : Int)))) =
        some (bif !(lexW s).2 || ((gB ((lexW s).1.length + 1) (lexW s).1).Kind == 0) then (fT, 50) else
          bif !decide (sz (gB ((lexW s).1.length + 1) (lexW s).1) <= 60) then (fT, 4) else
          bif decide (dp (gB ((lexW s).1.length + 1) (lexW s).1) > 16) then (fT, 5) else (gB ((lexW s).1.length + 1) (lexW s).1, 0)) := fun b s2 hb h => by
      rw [h, aNA]
      have : (bif b then true else (!(skip s2 == ([] : aA)))) = true := by
        cases b with
        | true => rfl
        | false => exact hb
      rw [this]; rfl
    cases hp : pAny 1000 (lexW s).1 with
    | none =>
      rw [hp] at h2
      dsimp only at h2
      refine hbad st.bad st.s (by rw [h2]; rfl) ?_
      by_cases hk : (gB ((lexW s).1.length + 1) (lexW s).1).Kind = 0
      · rw [hk]; simp
      · have := (zH (l := (lexW s).1) (n := (lexW s).1.length + 1) (m := 1000) (by omega) (by omega) _).2 ⟨rfl, hk⟩
        rw [hp] at this; cases this
    | some p =>
      obtain ⟨x, r⟩ := p
      rw [hp] at h2
      obtain ⟨rfl, h3, h5, _⟩ := h2
      by_cases hr : r = []
      · subst hr
        obtain ⟨e1, e2⟩ := (zH (l := (lexW s).1) (n := (lexW s).1.length + 1) (m := 1000) (by omega) (by omega) _).1 hp
        cases hok : (lexW s).2 with
        | false =>
          have : (!(lexW s).2 || ((gB ((lexW s).1.length + 1) (lexW s).1).Kind == 0)) = true := by rw [hok]; rfl
          have := hbad st.bad st.s ?_ this
          · rw [hok] at this; exact this
          · rw [hok] at h5
            have hs2 : skip st.s ≠ [] := by
              intro h0
              have := lL st.s
              rw [h0, q6, h5] at this
              cases this
            have : (skip st.s == ([] : aA)) = false := by simpa using hs2
            rw [this]; simp
        | true =>
          rw [hok] at h5
          have hs2 : skip st.s = [] := by
            cases hn : nxt st.s with
            | none =>
              have := nE hn
              rw [h5] at this
              injection this with _ this
              exact eq_of_beq this.symm
            | some q =>
              obtain ⟨w, s'⟩ := q
              obtain ⟨hl, _⟩ := gN hn
              rw [hl] at h5; cases h5
          have ek : (y.Kind == 0) = false := by simpa using e2
          dsimp only
          rw [h3, hs2, e1, ek]
          show ((pN y).bind _) = some (bif !decide (sz y <= 60) then (fT, 4) else bif decide (dp y > 16) then (fT, 5) else (y, 0))
          rw [aJv, aOa]
          by_cases h6 : sz y <= 60
          · rw [decide_eq_true h6, aOn, aNB, aNB, aDa (by omega), aOa]
            cases decide (dp y > 16) <;> rfl
          · rw [decide_eq_false h6]; rfl
      · refine hbad st.bad st.s ?_ ?_
        · have hs2 : skip st.s ≠ [] := by
            intro h0
            have := lL st.s
            rw [h0, q6, h5] at this
            injection this with this _
            exact hr this.symm
          have : (skip st.s == ([] : aA)) = false := by simpa using hs2
          rw [this]; simp
        · by_cases hk : (gB ((lexW s).1.length + 1) (lexW s).1).Kind = 0
          · rw [hk]; simp
          · have := (zH (l := (lexW s).1) (n := (lexW s).1.length + 1) (m := 1000) (by omega) (by omega) _).2 ⟨rfl, hk⟩
            rw [hp] at this
            injection this with this
            injection this with _ this
            exact absurd this hr
theorem xS (n : Nat) : (Lib.decDigits n).length <= n + 1 := by
  induction n using Nat.strongRecOn with
  | _ n ih =>
    rw [Lib.decDigits]
    by_cases h : n < 10
    · rw [dif_pos h]; simp
    · rw [dif_neg h, aOc]
      have := ih (n / 10) (by omega)
      simp only [aOh]
      omega
def numW (n : Int) : aA := bif decide (n < 0) then 45 :: Lib.decDigits (-n).toNat else Lib.decDigits n.toNat
theorem aIP {n : Int} (h : -1099511627776 <= n /\ n <= 1099511627776) : (numW n).length <= 1099511627778 := by
  unfold numW
  cases decide (n < 0) with
  | true => have := xS (-n).toNat; rw [aNA, aOb]; omega
  | false => have := xS n.toNat; rw [aNB]; omega
theorem aHm {n : Int} (h : 0 <= n) (h' : n <= 1099511627776) : nC n = some (Lib.decDigits n.toNat) := by
  have := Dec_eq n.toNat (by omega)
  rwa [Int.toNat_of_nonneg h] at this
theorem aA9 {n : Int} (h : 0 <= n) (h' : n <= 1099511627776) : d5 n 10 = some (Lib.decDigits n.toNat) := by
  have := aGC n.toNat (by omega)
  rwa [Int.toNat_of_nonneg h] at this
theorem aHn {x : aB} (h : qB x = true) : x.Kids = [] /\ x.Sign = [] := by
  unfold qB at h
  simp only [aOk, List.isEmpty_iff, beq_iff_eq] at h
  exact ⟨h.1.2, h.1.1⟩
theorem aB3 {x : aB} (h : qB x = true) (hk : (x.Kind == 1) = true) : -1099511627776 <= x.N /\ x.N <= 1099511627776 := by
  unfold qB at h
  rw [hk] at h
  simp only [aNA, aOk, decide_eq_true_eq] at h
  exact ⟨h.2.1.2, h.2.2⟩
theorem aHo {n : Nat} {x : aB} (h : qB x = true) (hk : (x.Kind == 1) = true) : kD (n + 1) x = some (numW x.N) := by
  have hn := aB3 h hk
  show nM (kD n) x = _
  unfold nM
  have hl : aQ (mC (kD n) x) (([] : List aA), (0 : Int)) = some [] := by
    rw [aR]
    unfold mC
    rw [(aHn h).1]; rfl
  rw [hl, aOa, hk, aNA]
  unfold numW
  by_cases h0 : x.N < 0
  · rw [decide_eq_true h0, aNA, aNA, Int.zero_sub, wrap_i64 (by omega) (by omega), pO (by omega) (by omega), aHm (by omega) (by omega), aOa, yK]
    · rfl
    · have := xS (-x.N).toNat
      unfold maxLen; simp only [aOh]; omega
  · rw [decide_eq_false h0, aNB, aNB, pO (by omega) (by omega), aHm (by omega) (by omega)]; rfl
theorem aHp {n : Nat} {x : aB} (h : qB x = true) (hk : (x.Kind == 1) = true) : eQ (n + 1) x = some (numW x.N) := by
  have hn := aB3 h hk
  show f5 (eQ n) x = _
  unfold f5
  rw [hk, aNA, aNA]
  unfold numW
  by_cases h0 : x.N < 0
  · rw [decide_eq_true h0, aNA, aNA, Int.zero_sub, wrap_i64 (by omega) (by omega), pO (by omega) (by omega), aA9 (by omega) (by omega), aOa, yK]
    · rfl
    · have := xS (-x.N).toNat
      unfold maxLen; simp only [aOh]; omega
  · rw [decide_eq_false h0, aNB, aNB, pO (by omega) (by omega), aA9 (by omega) (by omega)]; rfl
structure ESm2 (e : aG) : Prop extends ESm e where
  host : e.Host.length <= 10000
  referer : e.Referer.length <= 10000
theorem aDh {n : Nat} {l : List aE} (h : PSm n l) (k : aA) : (aCV l k).1.length <= n := by
  unfold aCV
  cases hf : l.find? (fun p => p.Name == k) with
  | none => exact aOj _
  | some p => exact (h p (List.mem_of_find?_eq_some hf)).2
theorem aE8 (s w : aA) : (digS s w).length <= s.length := by
  unfold digS
  cases hasW s w with
  | true =>
    have := nP dpB (s.drop ((Lib.index s w).toNat + w.length))
    rw [aOl] at this
    rw [aNA]; omega
  | false => exact aOj _
theorem aKi (s k : aA) : (agK (agS s) k).length <= s.length + 10 := by
  have h1 : (agB s).1.length <= 10 /\ (agB s).2.length <= s.length := by
    unfold agB
    cases hasW s t8 with
    | true => exact ⟨(by decide : t8.length <= 10), aE8 ..⟩
    | false =>
      cases hasW s kS with
      | true => exact ⟨(by decide : aBN.length <= 10), aE8 ..⟩
      | false => exact ⟨(by decide : aCZ.length <= 10), aOj _⟩
  have h2 : (agO s).length <= 10 := by
    unfold agO
    cases hasW s [87, 105, 110, 100, 111, 119, 115] <;> cases hasW s [77, 97, 99] <;> cases hasW s [88, 49, 49] <;> decide
  unfold agK agS
  cases k == ([98, 114, 111, 119, 115, 101, 114] : aA) with
  | true => rw [aNA]; dsimp only; omega
  | false =>
    cases k == ([118, 101, 114, 115, 105, 111, 110] : aA) with
    | true => rw [aNB, aNA]; dsimp only; omega
    | false =>
      cases k == ([111, 115] : aA) with
      | true => rw [aNB, aNB, aNA]; dsimp only; omega
      | false => exact aOj _
theorem aIQ {s : aA} (hs : s.length <= 10000) : PSm s.length (aD8 s) := by
  obtain ⟨r, h1, _, h3, _⟩ := w8 hs
  unfold aD8; rw [h1]; exact h3
theorem aHq {s : aA} (hs : s.length <= 10000) : PSm s.length (yV s) := by
  obtain ⟨r, h1, _, h3, _⟩ := aAZ hs
  unfold yV; rw [h1]; exact h3
theorem aIR {e : aG} (he : ESm2 e) (n k : aA) : (valS e n k).1.length <= 10010 := by
  have a1 := he.agent; have a2 := he.cookie; have a3 := he.query; have a4 := he.language; have a5 := he.host; have a6 := he.referer
  have b1 := aKi e.Agent k
  have b2 := aDh (aIQ he.cookie) k
  have b3 := aDh (aHq he.query) k
  have b4 : (aFR (aC0 e.Language) k).1.length <= 10 := by
    unfold aFR; cases hasS (aC0 e.Language) (kP k) <;> decide
  unfold valS
  have hb : ∀ (c d : Bool) (x y : aA × Bool), x.1.length <= 10010 -> y.1.length <= 10010 -> ((bif c then x else y) : aA × Bool).1.length <= 10010 := fun c d x y h1 h2 => by cases c; exact h2; exact h1
  have hs : ∀ s : aA, s.length <= 10010 -> (sme s).1.length <= 10010 := fun s h => h
  refine hb _ true _ _ (hb _ true _ _ (hs _ (by omega)) (aOj _)) ?_
  refine hb _ true _ _ (hb _ true _ _ (hs _ (by omega)) (aOj _)) ?_
  refine hb _ true _ _ (hb _ true _ _ (hs _ (by omega)) (hs _ (by omega))) ?_
  refine hb _ true _ _ (hb _ true _ _ (hs _ (by omega)) (by omega)) ?_
  refine hb _ true _ _ (hb _ true _ _ (hs _ (by omega)) (by omega)) ?_
  exact hb _ true _ _ (hb _ true _ _ (hs _ (by omega)) (by omega)) (aOj _)
theorem aIS {val : aA -> aA -> aA × Bool} {M : Nat} (hv : ∀ n k, (val n k).1.length <= M) (s : aA) (hs : s.length <= M) : (refS val s).1.length <= M := by
  have hend : ∀ (n k o : aA) (len : Nat) (r : aA), o.length <= M -> (endS val n k o len r).1.length <= M := fun n k o len r ho => by
    unfold endS
    cases aW r [41] with
    | false => exact aOj _
    | true =>
      rw [aNA]
      cases (val n k).2 with
      | true => exact hv n k
      | false => exact ho
  have hoth : ∀ (n k : aA) (len : Nat) (r : aA), r.length <= M -> (othS val n k len r).1.length <= M := fun n k len r hr => by
    unfold othS
    have d2 : (r.drop 2).length <= M := by rw [aOl]; omega
    have d1 : (r.drop 1).length <= M := by rw [aOl]; omega
    cases aW r [124, 39] with
    | true =>
      rw [aNA]
      cases (cutC 39 (r.drop 2)).2.2 with
      | true => exact hend _ _ _ _ _ (Nat.le_trans (wH ..).1 d2)
      | false => exact aOj _
    | false =>
      rw [aNB]
      cases aW r [124] with
      | true => exact hend _ _ _ _ _ (by have := nP (nB oBad) (r.drop 1); omega)
      | false => exact hend _ _ _ _ _ (aOj _)
  unfold refS
  have t1 := nP letB (s.drop 2)
  rw [aOl] at t1
  cases (aW s [36, 40] && !(tw letB (s.drop 2) == ([] : aA))) with
  | false => exact aOj _
  | true =>
    rw [aNA]
    cases aW (dw letB (s.drop 2)) [123] with
    | false => exact hoth _ _ _ _ (by omega)
    | true =>
      rw [aNA]
      cases (!(tw (nB kBad) ((dw letB (s.drop 2)).drop 1) == ([] : aA)) && aW (dw (nB kBad) ((dw letB (s.drop 2)).drop 1)) [125]) with
      | false => exact aOj _
      | true =>
        refine hoth _ _ _ _ ?_
        have t2 := nP (nB kBad) ((dw letB (s.drop 2)).drop 1)
        rw [aOl] at t2 ⊢
        omega
theorem aIT {e : aG} (he : ESm2 e) {s : aA} (hs : s.length <= maxLen) : (refV e s).1.length <= maxLen :=
  aIS (M := maxLen) (fun n k => Nat.le_trans (aIR he n k) (by unfold maxLen; omega)) s hs
noncomputable def valX (e : aG) (x : aB) : aA := bif x.Kind == 2 then x.Text else bif x.Kind == 3 then (refV e x.Text).1 else numW x.N
theorem aB4 {x : aB} (h : kF x = true) (h2 : (x.Kind == 2) = false) (h3 : (x.Kind == 3) = false) : (x.Kind == 1) = true := by
  unfold kF at h
  rw [h2, h3] at h
  simpa using h
theorem tJ {e : aG} (he : ESm2 e) {x : aB} (hs : kF x = true) (hl : qB x = true) (hx : KOk x) : (valX e x).length <= maxLen := by
  unfold valX
  cases h2 : x.Kind == 2 with
  | true => exact hx.text
  | false =>
    cases h3 : x.Kind == 3 with
    | true => exact aIT he hx.text
    | false => have := aIP (aB3 hl (aB4 hs h2 h3)); unfold maxLen; rw [aNB, aNB]; omega
theorem wO {e : aG} (he : ESm2 e) {x : aB} (hs : kF x = true) (hl : qB x = true) (hx : KOk x) : kM e x = some (valX e x) := by
  unfold kM valX
  cases h2 : x.Kind == 2 with
  | true => rfl
  | false =>
    cases h3 : x.Kind == 3 with
    | true => rw [aNB, aNA, tF he.toESm hx.text]; rfl
    | false => rw [aNB, aNB, show wD x = _ from aHo (n := 999999) hl (aB4 hs h2 h3)]; rfl
theorem zL {e : aG} (he : ESm2 e) {x : aB} (hs : kF x = true) (hl : qB x = true) (hx : KOk x) : cZ e x = some (valX e x) := by
  unfold cZ valX
  cases h3 : x.Kind == 3 with
  | true =>
    rw [aNA, qZ he.toESm hx.text]
    have : (x.Kind == 2) = false := by rw [beq_iff_eq.1 h3]; rfl
    rw [this]; rfl
  | false =>
    cases h2 : x.Kind == 2 with
    | true => rfl
    | false => rw [aNB, aNB, show lW x = _ from aHp (n := 999999) hl (aB4 hs h2 h3)]; rfl
def aB5 (a b : aA) : Bool := bif (sgn a).2 == 0 && (sgn b).2 == 0 then decide ((sgn a).1 < (sgn b).1) else Op.bytesLess a b
def agP (a b : aA) : Int := bif (sgn a).2 == 0 && (sgn b).2 == 0 then (bif decide ((sgn a).1 < (sgn b).1) then -1 else bif decide ((sgn a).1 > (sgn b).1) then 1 else 0) else Lib.compareBytes a b
theorem aHr {a b : aA} (ha : a.length <= maxLen) (hb : b.length <= maxLen) : d7 a b = some (aB5 a b) := by
  unfold d7 aB5
  rw [sK ha, sK hb, aOa, aOa]
  cases (sgn a).2 == 0 <;> cases (sgn b).2 == 0 <;> rfl
theorem aF3 {a b : aA} (ha : a.length <= maxLen) (hb : b.length <= maxLen) : l0 a b = some (agP a b) := by
  unfold l0 agP
  rw [sJ ha, sJ hb, aOa, aOa, show ((sgn a).2 != 0) = !((sgn a).2 == 0) from rfl, show ((sgn b).2 != 0) = !((sgn b).2 == 0) from rfl]
  cases (sgn a).2 == 0 <;> cases (sgn b).2 == 0 <;> try rfl
  cases decide ((sgn a).1 < (sgn b).1) <;> cases decide ((sgn a).1 > (sgn b).1) <;> rfl
theorem aHs : ∀ (a b : aA), (Lib.compareBytes a b = -1 /\ Op.bytesLess a b = true /\ Op.bytesLess b a = false) ∨ (Lib.compareBytes a b = 0 /\ Op.bytesLess a b = false /\ Op.bytesLess b a = false) ∨ (Lib.compareBytes a b = 1 /\ Op.bytesLess a b = false /\ Op.bytesLess b a = true)
  | [], [] => .inr (.inl ⟨rfl, rfl, rfl⟩)
  | [], _ :: _ => .inl ⟨rfl, rfl, rfl⟩
  | _ :: _, [] => .inr (.inr ⟨rfl, rfl, rfl⟩)
  | a :: as, b :: bs => by
    have ih := aHs as bs
    simp only [Lib.compareBytes, Op.bytesLess]
    rcases Nat.lt_trichotomy a.toNat b.toNat with h | h | h
    · have h1 : a < b := h
      have h2 : ¬ b < a := fun hh => Nat.lt_asymm h hh
      have h3 : (b == a) = false := by rw [beq_eq_false_iff_ne]; intro hh; rw [hh] at h; omega
      exact .inl ⟨by rw [if_pos h1], by simp [h1], by simp [h2, h3]⟩
    · have : a = b := UInt8.toNat_inj.1 h
      subst this
      have hn : ¬ a < a := fun hh => Nat.lt_irrefl _ hh
      rw [if_neg hn, if_neg hn]
      simp only [decide_eq_false hn, Bool.false_or, beq_self_eq_true, aOm]
      exact ih
    · have h1 : b < a := h
      have h2 : ¬ a < b := fun hh => Nat.lt_asymm h hh
      have h3 : (a == b) = false := by rw [beq_eq_false_iff_ne]; intro hh; rw [hh] at h; omega
      exact .inr (.inr ⟨by rw [if_neg h2, if_pos h1], by simp [h2, h3], by simp [h1]⟩)
theorem ag_tri (a b : aA) : (agP a b = -1 /\ aB5 a b = true /\ aB5 b a = false) ∨ (agP a b = 0 /\ aB5 a b = false /\ aB5 b a = false) ∨ (agP a b = 1 /\ aB5 a b = false /\ aB5 b a = true) := by
  unfold agP aB5
  rw [show ((sgn b).2 == 0 && (sgn a).2 == 0) = ((sgn a).2 == 0 && (sgn b).2 == 0) from Bool.and_comm ..]
  cases ((sgn a).2 == 0 && (sgn b).2 == 0) with
  | false => exact aHs a b
  | true =>
    simp only [aNA]
    rcases Int.lt_trichotomy (sgn a).1 (sgn b).1 with h | h | h
    · exact .inl ⟨by rw [decide_eq_true h]; rfl, decide_eq_true h, decide_eq_false (by omega)⟩
    · exact .inr (.inl ⟨by rw [decide_eq_false (by omega), decide_eq_false (by omega)]; rfl, decide_eq_false (by omega), decide_eq_false (by omega)⟩)
    · exact .inr (.inr ⟨by rw [decide_eq_false (by omega), decide_eq_true (by omega)]; rfl, decide_eq_false (by omega), decide_eq_true h⟩)
inductive WV : aB -> Prop
  | leaf (x : aB) (h1 : kF x = true) (h2 : qB x = true) : WV x
  | sign (s : aA) (a b : aB) (hs : gF s = true) (ha : kF a = true) (ha' : qB a = true) (hb : kF b = true) (hb' : qB b = true) : WV (aB.mk 7 0 [] s [a, b])
  | no (a : aB) (ha : wl a = true) : WV (aB.mk 4 0 [] [] [a])
  | row (k : Int) (l : List aB) (hk : k = 5 ∨ k = 6) (hl : 2 <= l.length) (h : ∀ x, x ∈ l -> wl x = true) : WV (aB.mk k 0 [] [] l)
theorem aEj {x : aB} (h : wl x = true) (hs : kF x = true) : qB x = true := by
  rw [aEe, hs, aNA] at h; exact h
theorem aHt {x : aB} (h : wl x = true) : WV x := by
  cases hs : kF x with
  | true => exact .leaf x hs (aEj h hs)
  | false =>
    rw [aEe, hs, aNB] at h
    obtain ⟨k, n, t, s, kids⟩ := x
    simp only [aOk, beq_iff_eq] at h
    obtain ⟨⟨⟨h1, h2⟩, h3⟩, h4⟩ := h
    subst h1; subst h2
    rw [uS, List.all_eq_true] at h3
    unfold aDc at h4
    dsimp only at h4
    cases h7 : k == 7 with
    | true =>
      rw [h7, aNA] at h4
      simp only [aOk, Nat.beq_eq, List.all_eq_true] at h4
      obtain ⟨⟨g1, g2⟩, g3⟩ := h4
      match kids, g2 with
      | [a, b], _ =>
        have ha := g3 a (by simp); have hb := g3 b (by simp)
        rw [beq_iff_eq.1 h7]
        exact .sign s a b g1 ha (aEj (h3 a (by simp)) ha) hb (aEj (h3 b (by simp)) hb)
    | false =>
      rw [h7, aNB] at h4
      cases h5 : k == 4 with
      | true =>
        rw [h5, aNA] at h4
        simp only [aOk, Nat.beq_eq, beq_iff_eq] at h4
        obtain ⟨g1, g2⟩ := h4
        match kids, g2 with
        | [a], _ =>
          rw [beq_iff_eq.1 h5, g1]
          exact .no a (h3 a (by simp))
      | false =>
        rw [h5, aNB] at h4
        cases h6 : (k == 5 || k == 6) with
        | true =>
          rw [h6, aNA] at h4
          simp only [aOk, Nat.ble_eq, beq_iff_eq] at h4
          rw [h4.1]
          exact .row k kids (by simpa using h6) h4.2 h3
        | false => rw [h6] at h4; cases h4
def sgV (g : aA) (n : Int) : Bool := bif g == ([61, 61] : aA) then n == 0 else bif g == ([33, 61] : aA) then n != 0 else bif g == ([60] : aA) then decide (n < 0) else
  bif g == ([62] : aA) then decide (n > 0) else bif g == ([60, 61] : aA) then decide (n <= 0) else decide (n ≥ 0)
def wTrue : aA := [116, 114, 117, 101]
mutual
noncomputable def hold (e : aG) : aB -> Bool
  | ⟨k, n, t, s, kids⟩ => bif k == 1 then n != 0 else bif k == 4 then !(anyH e kids) else bif k == 5 then allH e kids else bif k == 6 then anyH e kids else
    bif k == 7 then sgV s (agP (valX e (kids.headD fT)) (valX e ((kids.drop 1).headD fT))) else valX e ⟨k, n, t, s, kids⟩ == wTrue
noncomputable def anyH (e : aG) : List aB -> Bool
  | [] => false
  | x :: l => hold e x || anyH e l
noncomputable def allH (e : aG) : List aB -> Bool
  | [] => true
  | x :: l => hold e x && allH e l
end
theorem aHu (e : aG) (x : aB) : hold e x = bif x.Kind == 1 then x.N != 0 else bif x.Kind == 4 then !(anyH e x.Kids) else bif x.Kind == 5 then allH e x.Kids else bif x.Kind == 6 then anyH e x.Kids else
    bif x.Kind == 7 then sgV x.Sign (agP (valX e (x.Kids.headD fT)) (valX e ((x.Kids.drop 1).headD fT))) else valX e x == wTrue := by cases x; rw [hold]
theorem aE9 (e : aG) : ∀ (l : List aB), anyH e l = l.any (hold e)
  | [] => by rw [anyH]; rfl
  | x :: l => by rw [anyH, aE9 e l]; rfl
theorem aB6 (e : aG) : ∀ (l : List aB), allH e l = l.all (hold e)
  | [] => by rw [allH]; rfl
  | x :: l => by rw [allH, aB6 e l]; rfl
theorem vP {k n : Int} {t s : aA} {l : List aB} {m : Nat} (h : sz (aB.mk k n t s l) <= m + 1) {x : aB} (hx : x ∈ l) : sz x <= m := by
  have := sO hx
  rw [sz] at h; omega
theorem aKj {l : List aB} {p : aB -> Bool} : (!(l.any fun k => !p k)) = l.all p := by
  rw [List.all_eq_not_any_not]
theorem aDi {x : aB} (hs : kF x = true) : (x.Kind == 4) = false /\ (x.Kind == 5) = false /\ (x.Kind == 6) = false /\ (x.Kind == 7) = false := by
  unfold kF at hs
  simp only [Bool.or_eq_true, beq_iff_eq] at hs
  rcases hs with (h | h) | h <;> rw [h] <;> exact ⟨rfl, rfl, rfl, rfl⟩
theorem aF4 {e : aG} (he : ESm2 e) : ∀ (n : Nat) (x : aB), sz x <= n -> wl x = true -> KOk x -> iL n e x = some (hold e x) := by
  intro n
  induction n with
  | zero => intro x h; have := uK x; omega
  | succ n ih =>
    intro x h hw hx
    show nN (iL n) e x = _
    unfold nN
    rw [aHu]
    cases aHt hw with
    | leaf _ h1 h2 =>
      obtain ⟨k4, k5, k6, k7⟩ := aDi h1
      rw [k4, k5, k6, k7, wO he h1 h2 hx]
      cases x.Kind == 1 <;> rfl
    | sign s a b hs ha ha' hb hb' =>
      have ka := hx.at_.2 a (by simp); have kb := hx.at_.2 b (by simp)
      show ((kM e a).bind fun x6 => (some b).bind fun x7 => (kM e x7).bind fun x8 => (l0 x6 x8).bind fun x9 => _) = some (sgV s (agP (valX e a) (valX e b)))
      rw [wO he ha ha' ka, aOa, aOa, wO he hb hb' kb, aOa, aF3 (tJ he ha ha' ka) (tJ he hb hb' kb), aOa]
      unfold sgV
      dsimp only
      cases s == ([61, 61] : aA) with
      | true => rfl
      | false =>
        cases s == ([33, 61] : aA) with
        | true => rfl
        | false =>
          cases s == ([60] : aA) with
          | true => rfl
          | false =>
            cases s == ([62] : aA) with
            | true => rfl
            | false =>
              cases s == ([60, 61] : aA) <;> rfl
    | no a ha =>
      have ka := hx.at_.2 a (by simp)
      show ((iK (iL n) a e).bind fun x2 => some x2) = some (!(anyH e [a]))
      unfold iK
      rw [ih a (vP h (by simp)) ha ka, anyH, anyH, Bool.or_false]; rfl
    | row k l hk hl hall =>
      have kk := hx.at_
      rcases hk with rfl | rfl
      · show ((aM l (fun x0 => iK (iL n) x0 e)).bind fun x3 => some (!x3)) = some (allH e l)
        rw [aBY (l := l) (fun k => !(hold e k)) (fun k hm => by unfold iK; rw [ih k (vP h hm) (hall k hm) (kk.2 k hm)]; rfl) kk.1, aB6, <- aKj]; rfl
      · show ((aM l (fun x0 => lZ (iL n) x0 e)).bind fun x4 => some x4) = some (anyH e l)
        rw [aBY (l := l) (hold e) (fun k hm => by unfold lZ; rw [ih k (vP h hm) (hall k hm) (kk.2 k hm)]; rfl) kk.1, aE9]; rfl
theorem aFa {e : aG} : ∀ (l : List aB) (a o : Bool), kN (ρ := Bool × Bool) (fun (x : Bool × Bool) k => .inl (x.1 && hold e k, x.2 || hold e k)) (fun x => x) l (a, o) = (a && allH e l, o || anyH e l)
  | [], a, o => by rw [kN, allH, anyH, Bool.and_true, Bool.or_false]
  | x :: l, a, o => by
    rw [kO]
    dsimp only
    rw [aFa l, allH, anyH, Bool.and_assoc, Bool.or_assoc]
theorem aHv {e : aG} (he : ESm2 e) : ∀ (n : Nat) (x : aB), sz x <= n -> wl x = true -> KOk x -> bM n e x = some (hold e x) := by
  intro n
  induction n with
  | zero => intro x h; have := uK x; omega
  | succ n ih =>
    intro x h hw hx
    show f6 (bM n) e x = _
    have hloop : ∀ (k : Int) (l : List aB), (∀ y, y ∈ l -> sz y <= n /\ wl y = true /\ KOk y) -> l.length <= maxLen -> aQ (bP (bM n) e (aB.mk k 0 [] [] l)) (true, false, (0 : Int)) = some (allH e l, anyH e l) := by
      intro k l hl hm
      have := aFa (e := e) l true false
      rw [aOm, Bool.false_or] at this
      rw [<- this]
      refine mF (body := bP (bM n) e (aB.mk k 0 [] [] l)) l (fun i (a : Bool × Bool) => (a.1, a.2, (i : Int))) _ _ (fun _ _ => True) (fun i a y hy _ => ?_) (fun a _ => ?_) (true, false) trivial
      · obtain ⟨p1, p2, p3⟩ := hl y (aOi hy)
        refine .inl ⟨_, rfl, ?_, trivial⟩
        unfold bP
        simp only [aZ (aP hy), aNA, bZ hy, aOa, ih y p1 p2 p3]
        rw [bN (aP hy) hm]
        cases a.1 <;> cases a.2 <;> rfl
      · unfold bP
        simp only [cD, aNB]
    unfold f6
    rw [aA3, aOa, aHu]
    cases aHt hw with
    | leaf _ h1 h2 =>
      obtain ⟨k4, k5, k6, k7⟩ := aDi h1
      rw [k4, k5, k6, k7, h1, zL he h1 h2 hx]
      cases x.Kind == 1 <;> rfl
    | sign s a b hs ha ha' hb hb' =>
      have ka := hx.at_.2 a (by simp); have kb := hx.at_.2 b (by simp)
      show ((cZ e a).bind fun x4 => (some b).bind fun x5 => (cZ e x5).bind fun x6 => (d7 x4 x6).bind fun x7 => (d7 x6 x4).bind fun x8 => _) = some (sgV s (agP (valX e a) (valX e b)))
      rw [zL he ha ha' ka, aOa, aOa, zL he hb hb' kb, aOa, aHr (tJ he ha ha' ka) (tJ he hb hb' kb), aOa, aHr (tJ he hb hb' kb) (tJ he ha ha' ka), aOa]
      unfold sgV
      dsimp only
      rcases ag_tri (valX e a) (valX e b) with ⟨q1, q2, q3⟩ | ⟨q1, q2, q3⟩ | ⟨q1, q2, q3⟩ <;> rw [q1, q2, q3] <;>
      cases s == ([61, 61] : aA) <;> cases s == ([33, 61] : aA) <;> cases s == ([60] : aA) <;> cases s == ([62] : aA) <;> cases s == ([60, 61] : aA) <;> rfl
    | no a ha =>
      show ((aQ (bP (bM n) e (aB.mk 4 0 [] [] [a])) (true, false, (0 : Int)) : Option (Bool × Bool)).bind fun j9 => some (!(j9.2))) = some (!(anyH e [a]))
      rw [hloop 4 [a] (fun y hy => by rw [List.mem_singleton.1 hy]; exact ⟨vP h (by simp), ha, hx.at_.2 a (by simp)⟩) hx.at_.1]; rfl
    | row k l hk hl hall =>
      have hl' := hloop k l (fun y hy => ⟨vP h hy, hall y hy, hx.at_.2 y hy⟩) hx.at_.1
      rcases hk with rfl | rfl
      · show ((aQ (bP (bM n) e (aB.mk 5 0 [] [] l)) (true, false, (0 : Int)) : Option (Bool × Bool)).bind fun j9 => some (j9.1)) = some (allH e l)
        rw [hl']; rfl
      · show ((aQ (bP (bM n) e (aB.mk 6 0 [] [] l)) (true, false, (0 : Int)) : Option (Bool × Bool)).bind fun j9 => some (j9.2)) = some (anyH e l)
        rw [hl']; rfl
def pV (x : aB) : Bool := decide (sz x <= 60) && (wl x && decide (dp x <= 16))
theorem tK {x : aB} : pV x = true ↔ sz x <= 60 /\ wl x = true /\ dp x <= 16 := by
  unfold pV; simp only [aOk, decide_eq_true_eq]
theorem aF5 {x : aB} (hx : KOk x) : qA x = some (pV x) := by
  unfold qA pV
  rw [aJv, aOa]
  by_cases h : sz x <= 60
  · rw [decide_eq_true h, eR rfl, show yH x = _ from aG8 1000000 x (by omega) hx, aOa, aNA, aOm]
    cases wl x with
    | true => rw [eR rfl, aDa (by omega)]; rfl
    | false => rfl
  · rw [decide_eq_false h]; rfl
theorem aKk (n : Nat) : decide ((((mn61 n : Nat) : Int)) <= (60 : Int)) = decide (n <= 60) := by
  unfold mn61
  by_cases h : n <= 60
  · rw [if_pos h, decide_eq_true h, decide_eq_true (by omega)]
  · rw [if_neg h, decide_eq_false h]; rfl
theorem aHw {x : aB} (hx : KOk x) : g7 x = some (pV x) := by
  unfold g7 pV
  rw [aEc hx, aOa, aKk]
  by_cases h : sz x <= 60
  · rw [decide_eq_true h, eR rfl, show mE x = _ from aIL 1000000 x (by omega) hx, aOa, aNA, aOm]
    cases hw : wl x with
    | true => rw [eR rfl, aE2 (by omega) (aJw _ x (aOg _) hw)]; rfl
    | false => rfl
  · rw [decide_eq_false h]; rfl
noncomputable def aIU (e : aG) (x : aB) : Bool × Int := bif pV x then (hold e x, 0) else (false, 1)
theorem aHx {e : aG} (he : ESm2 e) {x : aB} (hx : KOk x) : nO e x = some (aIU e x) := by
  unfold nO aIU
  rw [aF5 hx, aOa]
  cases h : pV x with
  | false => rfl
  | true =>
    obtain ⟨h1, h2, h3⟩ := tK.1 h
    rw [show wE e x = _ from aF4 he 1000000 x (by omega) h2 hx]; rfl
theorem aFb {e : aG} (he : ESm2 e) {x : aB} (hx : KOk x) (h : pV x = true) : fN e x = some (hold e x) := by
  obtain ⟨h1, h2, h3⟩ := tK.1 h
  exact aHv he 1000000 x (by omega) h2 hx
theorem aBa (s : aA) : ((parX s).2 ≠ 0 /\ (parX s).1 = fT) ∨ (∃ x, parX s = (x, 0) /\ s.length <= 400 /\ (lexW s).2 = true /\ gB ((lexW s).1.length + 1) (lexW s).1 = x /\ x.Kind ≠ 0 /\ KOk x /\ pV x = true) := by
  unfold parX
  by_cases h4 : s.length > 400
  · rw [decide_eq_true h4]; exact .inl ⟨(by decide : (2 : Int) ≠ 0), rfl⟩
  · rw [decide_eq_false h4, aNB]
    have htok := aHj s.length s (aOg _) (by omega)
    have hcnt := zI s.length s (aOg _)
    generalize hx : gB ((lexW s).1.length + 1) (lexW s).1 = x
    cases hok : (lexW s).2 with
    | false => exact .inl ⟨(by decide : (50 : Int) ≠ 0), rfl⟩
    | true =>
      cases hk : x.Kind == 0 with
      | true => exact .inl ⟨(by decide : (50 : Int) ≠ 0), rfl⟩
      | false =>
        have hk' : x.Kind ≠ 0 := by simpa using hk
        have hf := aA8 ((lexW s).1.length + 1) (lexW s).1 (by omega) htok (by rw [hx]; exact hk')
        rw [hx] at hf
        by_cases h6 : sz x <= 60
        · rw [decide_eq_true h6]
          by_cases h16 : dp x > 16
          · rw [decide_eq_true h16]; exact .inl ⟨(by decide : (5 : Int) ≠ 0), rfl⟩
          · rw [decide_eq_false h16]
            exact .inr ⟨x, rfl, by omega, rfl, rfl, hk', hf.2, tK.2 ⟨h6, hf.1, by omega⟩⟩
        · rw [decide_eq_false h6]; exact .inl ⟨(by decide : (4 : Int) ≠ 0), rfl⟩
noncomputable def aAz (e : aG) (s : aA) : Bool × Int := bif (parX s).2 == 0 then (hold e (parX s).1, 0) else (false, (parX s).2)
theorem aEk {e : aG} (he : ESm2 e) (s : aA) : mD e s = some (aAz e s) := by
  unfold mD aAz
  rw [aDg, aOa]
  rcases aBa s with ⟨h1, h2⟩ | ⟨x, h1, _, _, _, _, h2, h3⟩
  · have : ((parX s).2 == 0) = false := by simpa using h1
    rw [show ((parX s).2 != (0 : Int)) = !((parX s).2 == 0) from rfl, this]; rfl
  · rw [h1]
    show ((nO e x).bind fun x2 => some (x2.1, x2.2)) = _
    rw [aHx he h2]
    unfold aIU; rw [h3]; rfl
theorem aIV (n k : Nat) : imin ((n : Nat) : Int) (k : Int) = ((min n k : Nat) : Int) := by
  unfold imin
  split <;> omega
theorem aJx {α : Type} (s : List α) (k : Nat) : slc s 0 (imin (s.length : Int) (k : Int)) = some (s.take k) := by
  rw [aIV, mG _ _ (Nat.min_le_left ..)]
  congr 1
  rw [List.take_eq_take_iff]; omega
def fewE (e : aG) : aG := aG.mk (e.Host.take 300) (e.Referer.take 300) (e.Agent.take 300) (e.Cookie.take 300) (e.Language.take 300) (e.Query.take 300)
theorem aKl (s : aA) : cA s = some (s.take 300) := by
  unfold cA
  rw [show (300 : Int) = ((300 : Nat) : Int) from rfl, aJx]; rfl
theorem aKm (e : aG) : gR e = some (fewE e) := by
  unfold gR
  simp only [aKl, aOa]
  rfl
theorem wQ (s : aA) : (s.take 300).length <= 10000 := by rw [aOq]; omega
theorem aHy (e : aG) : ESm2 (fewE e) :=
  { agent := wQ _, cookie := wQ _, query := wQ _, language := wQ _, host := wQ _, referer := wQ _ }
def lexF : Nat -> aA -> List aA × Bool
  | 0, _ => ([], false)
  | _ + 1, [] => ([], true)
  | n + 1, c :: t => bif blk c then lexF n t else bif Nat.beq (fQ (c :: t)) 0 then ([], false) else
      ((c :: t).take (fQ (c :: t)) :: (lexF n ((c :: t).drop (fQ (c :: t)))).1, (lexF n ((c :: t).drop (fQ (c :: t)))).2)
theorem aHz : ∀ (n : Nat) (s : aA), s.length < n -> lexF n s = lexW s := by
  intro n
  induction n with
  | zero => intro s h; omega
  | succ n ih =>
    intro s h
    cases s with
    | nil => rw [q6]; rfl
    | cons c t =>
      rw [aOb] at h
      rw [lexF]
      cases hb : blk c with
      | true => rw [aNA, ih t (by omega), aBR t hb]
      | false =>
        rw [aNB]
        by_cases h0 : fQ (c :: t) = 0
        · rw [aBS hb h0, h0]; rfl
        · have : Nat.beq (fQ (c :: t)) 0 = false := by rw [<- aOv, Nat.beq_eq]; exact h0
          rw [yY hb h0, this, aNB, ih _ (by rw [aOl, aOb]; omega)]
def aHA : aA := [49, 61, 61, 49, 32, 38, 32, 33, 40, 39, 97, 39, 62, 39, 98, 39, 41]
def aHB : aA := [49, 48, 60, 57]
def numX (n : Int) : aB := aB.mk 1 n [] [] []
def txtX (s : aA) : aB := aB.mk 2 0 s [] []
def aKn : aB := aB.mk 5 0 [] [] [aB.mk 7 0 [] [61, 61] [numX 1, numX 1], aB.mk 4 0 [] [] [aB.mk 7 0 [] [62] [txtX [97], txtX [98]]]]
def aKo : aB := aB.mk 7 0 [] [60] [numX 10, numX 9]
def aWords : List aA := [[49], [61, 61], [49], [38], [33], [40], [39, 97, 39], [62], [39, 98, 39], [41]]
def bWords : List aA := [[49, 48], [60], [57]]
theorem aLex : lexW aHA = (aWords, true) := by rw [<- aHz 18 aHA (by decide)]; kernel_rfl
theorem bLex : lexW aHB = (bWords, true) := by rw [<- aHz 5 aHB (by decide)]; kernel_rfl
theorem aPar : parX aHA = (aKn, 0) := by
  unfold parX; rw [aLex]; kernel_rfl
theorem bPar : parX aHB = (aKo, 0) := by
  unfold parX; rw [bLex]; kernel_rfl
theorem aKp {n : Nat} (h : n < 10) : Lib.decDigits n = [UInt8.ofNat (48 + n)] := by rw [Lib.decDigits, dif_pos h]
theorem numW1 : numW 1 = [49] := by
  show Lib.decDigits 1 = _
  rw [aKp (by decide)]; rfl
theorem numW9 : numW 9 = [57] := by
  show Lib.decDigits 9 = _
  rw [aKp (by decide)]; rfl
theorem numW10 : numW 10 = [49, 48] := by
  show Lib.decDigits 10 = _
  rw [Lib.decDigits, dif_neg (by decide), aKp (by decide)]; rfl
theorem aB7 (e : aG) (n : Int) : valX e (numX n) = numW n := rfl
theorem aFc (e : aG) (s : aA) : valX e (txtX s) = s := rfl
theorem zM (e : aG) (g : aA) (a b : aB) : hold e (aB.mk 7 0 [] g [a, b]) = sgV g (agP (valX e a) (valX e b)) := by rw [hold]; rfl
theorem aIW (e : aG) (a : aB) : hold e (aB.mk 4 0 [] [] [a]) = !(hold e a) := by
  rw [hold]
  show (!(anyH e [a])) = _
  rw [anyH, anyH, Bool.or_false]
theorem aIX (e : aG) (l : List aB) : hold e (aB.mk 5 0 [] [] l) = l.all (hold e) := by
  rw [hold, <- aB6]; rfl
theorem aJy : ESm2 E0 := { agent := by decide, cookie := by decide, query := by decide, language := by decide, host := by decide, referer := by decide }
theorem aIY : fO = some true := by
  unfold fO
  rw [show (aG.mk ([] : aA) ([] : aA) ([] : aA) ([] : aA) ([] : aA) ([] : aA)) = E0 from rfl]
  have h1 : aAz E0 aHA = (true, 0) := by
    unfold aAz
    rw [aPar]
    show (hold E0 aKn, (0 : Int)) = _
    unfold aKn
    rw [aIX, List.all_cons, List.all_cons, List.all_nil, aIW, zM, zM, aB7, aFc, aFc, numW1]
    kernel_rfl
  have h2 : aAz E0 aHB = (false, 0) := by
    unfold aAz
    rw [bPar]
    show (hold E0 aKo, (0 : Int)) = _
    unfold aKo
    rw [zM, aB7, aB7, numW9, numW10]
    kernel_rfl
  rw [show mD E0 ([49, 61, 61, 49, 32, 38, 32, 33, 40, 39, 97, 39, 62, 39, 98, 39, 41] : aA) = some (true, 0) from (aEk aJy aHA).trans (congrArg some h1),
    show mD E0 ([49, 48, 60, 57] : aA) = some (false, 0) from (aEk aJy aHB).trans (congrArg some h2)]
  rfl
theorem aAA (e : aG) (x : aB) (s : aA) (hx : KOk x) : eY e x s = some true := by
  unfold eY
  rw [aKm, aOa, show (410 : Int) = ((410 : Nat) : Int) from rfl, aJx, aOa, aEi, aOa, aEk (aHy e), aOa, aIY]
  have he := aHy e
  generalize fewE e = e at he ⊢
  generalize s.take 410 = s
  have h1 : ∃ h, fU ((!((aAz e s).2 != (parX s).2)) && ((parX s).2 == (0 : Int))) (fN e (parX s).1) = some h /\ (aAz e s).2 = (parX s).2 /\ (aAz e s).1 = (bif (parX s).2 == (0 : Int) then h else false) := by
    unfold aAz
    rcases aBa s with ⟨g1, g2⟩ | ⟨y, g1, _, _, _, _, g2, g3⟩
    · have : ((parX s).2 == 0) = false := by simpa using g1
      rw [this, Bool.and_false]
      exact ⟨default, rfl, rfl, rfl⟩
    · rw [g1]
      exact ⟨hold e y, (eR rfl).trans (aFb he g2 g3), rfl, rfl⟩
  obtain ⟨h, q1, q2, q3⟩ := h1
  rw [q1, aOa, q2, q3]
  have hb : ((parX s).2 != (parX s).2) = false := by simp
  rw [hb]
  have hc : ((bif (parX s).2 == (0 : Int) then h else false) == (bif (parX s).2 == (0 : Int) then h else false)) = true := by simp
  rw [hc]
  show ((nO e x).bind fun x7 => _) = _
  rw [aHx he hx, aOa, aEc hx, aOa, aHl, Bool.not_not]
  unfold aIU
  by_cases h6 : sz x <= 60
  · rw [decide_eq_true h6, eR rfl, aHw hx, aOa]
    cases hr : pV x with
    | false => rfl
    | true =>
      show ((fU true (fN e x)).bind fun x10 => some (bif ((0 : Int) == 0) then (hold e x == x10) else false)) = _
      rw [eR rfl, aFb he hx hr, aOa]
      simp
  · have : pV x = false := by
      cases hr : pV x with
      | false => rfl
      | true => exact absurd (tK.1 hr).1 h6
    rw [decide_eq_false h6, this]; rfl
theorem aKq {any : List aA -> Res} {m : Nat} {W r : List aA} {x : aB} (h : any (W ++ [41] :: r) = some (x, [41] :: r)) : pOne any (m + 1) ([40] :: (W ++ [41] :: r)) = some (x, r) := by
  rw [mJ, if_neg (by decide), if_pos rfl, h]
  dsimp only
  rw [if_pos rfl]
def fin (x : aB) : aB × Int := bif !decide (sz x <= 60) then (fT, 4) else bif decide (dp x > 16) then (fT, 5) else (x, 0)
structure Rd (s : aA) (x : aB) : Prop where
  par : parX s = (x, 0)
  len : s.length <= 400
  lex : (lexW s).2 = true
  cnt : (lexW s).1.length <= s.length
  ok : KOk x
  right : pV x = true
  any : ∀ n r, s.length < n -> (r = [] ∨ ∃ t, r = [41] :: t) -> pAny n ((lexW s).1 ++ r) = some (x, r)
theorem Rd.one {s : aA} {x : aB} (h : Rd s x) (n m : Nat) (hn : s.length < n) (r : List aA) : pOne (pAny n) (m + 1) ([40] :: ((lexW s).1 ++ [41] :: r)) = some (x, r) :=
  aKq (h.any n _ hn (.inr ⟨r, rfl⟩))
section
variable {a b : aA} {x y : aB} (ha : Rd a x) (hb : Rd b y)
include ha
include hb
end
def quo (o : aA) : aA := 39 :: (o ++ [39])
theorem kok_wf : ∀ (n : Nat) (x : aB), sz x <= n -> Wf (aB.avR x) -> KOk x := by
  intro n
  induction n with
  | zero => intro x h; have := uK x; omega
  | succ n ih =>
    intro x h hw
    rw [aB.av_eq] at hw
    have ht : Wf (AV.str x.Text) := Wf.aggMem (cs := aB.cells x) hw (by unfold aB.cells; simp)
    have hk : Wf (AV.list 5 (x.Kids.map aB.avR)) := Wf.aggMem (cs := aB.cells x) hw (by unfold aB.cells; simp)
    have hl := hk.listLen
    rw [List.length_map] at hl
    refine .mk x hl (fun k hm => ?_) ht.strLen
    have hs := kid_lt hm
    refine ih k (by omega) ?_
    rw [aB.av_eq]
    exact hk.listAgg (List.mem_map.2 ⟨k, hm, aB.av_eq k⟩)
theorem kok_of {x : aB} (h : Wf (.agg (aB.cells x))) : KOk x := kok_wf _ x (aOg _) (by rw [aB.av_eq]; exact h)
end Go.Proofs.YtdobepgddhbncaaGreatDoor
