/-
  Plain laws, Expr 30: how many letters a test has.
-/
import Derived.Test.YtdobepgddhbncaaGreatDoorPe12
import Derived.Test.YtdobepgddhbncaaGreatDoorPm29
open _root_.Option renaming bind_some -> aOp
open _root_.List renaming length_cons -> aOq
open _root_.List renaming length_append -> aOr
open _root_.List renaming length_singleton -> aOs
open _root_.List renaming mem_cons_self -> aOt
open _root_.List renaming mem_cons_of_mem -> aOu
open _root_.Nat renaming le_refl -> aOv
open _root_.List renaming getElem?_eq_getElem -> aOw
open _root_.List renaming mem_of_getElem? -> aOx
open _root_.Nat renaming zero_le -> aOy
open _root_.Bool renaming and_eq_true -> aOz
open _root_.List renaming length_drop -> aOA
open _root_.List renaming length_nil -> aOB
open _root_.Bool renaming not_true -> aOC
open _root_.List renaming cons_append -> aOD
open _root_.Bool renaming eq_iff_iff -> aOE
open _root_.List renaming take_succ_cons -> aOF
open _root_.List renaming drop_zero -> aOG
open _root_.List renaming append_nil -> aOH
open _root_.Bool renaming true_and -> aOI
open _root_.List renaming map_cons -> aOJ
open _root_.List renaming append_assoc -> aOK
open _root_.List renaming drop_eq_getElem_cons -> aOL
open _root_.List renaming length_take -> aOM
open _root_.Int renaming add_zero -> aON
open _root_.Bool renaming not_eq_true -> aOO
open _root_.List renaming drop_succ_cons -> aOP
open _root_.List renaming any_eq_false -> aOQ
namespace Go.Proofs.YtdobepgddhbncaaGreatDoor
open Go Go.Pm
set_option linter.unusedSimpArgs false
set_option linter.unusedVariables false
def fR (w : aA) : Bool := w == ([61, 61] : aA) || w == ([33, 61] : aA) || w == ([60, 61] : aA) || w == ([62, 61] : aA) || w == ([60] : aA) || w == ([62] : aA)
theorem aC9 (w : aA) : dZ w = some (fR w) := by
  unfold dZ fR
  cases w == ([61, 61] : aA) <;> cases w == ([33, 61] : aA) <;> cases w == ([60, 61] : aA) <;> cases w == ([62, 61] : aA) <;> cases w == ([60] : aA) <;> rfl
def aKk (s : aA) (bad : Bool) : aA × aC := match nxt s with
  | some (w, s') => if fR w = true then (w, aC.mk s' bad) else ([], aC.mk (skip s) bad)
  | none => ([], aC.mk (skip s) bad)
theorem aDa {s p : aA} {bad : Bool} (h : aY (skip s) p = false) : a8 (aC.mk s bad) p = some (false, aC.mk (skip s) bad) := by
  rw [aGN]
  unfold eatB eatR cutP
  rw [h]; rfl
theorem aEg {s p t : aA} {bad : Bool} (h : skip s = p ++ t) : a8 (aC.mk s bad) p = some (true, aC.mk t bad) := by
  rw [aGN]
  have : aY (skip s) p = true := by rw [h]; exact List.isPrefixOf_iff_prefix.2 ⟨t, rfl⟩
  unfold eatB eatR cutP
  rw [this]
  simp only [aNP]
  rw [h, List.drop_left' rfl]
def sgns : List aA := [([61, 61] : aA), ([33, 61] : aA), ([60, 61] : aA), ([62, 61] : aA), ([60] : aA), ([62] : aA)]
theorem aG8 {s g : aA} {bad : Bool} (k : Nat) (hg : sgns[k]? = some g) (hk : k < 6) : fL sgns ((k : Int), aC.mk s bad) = bif aY (skip s) g then some (.inr (g, aC.mk ((skip s).drop g.length) bad)) else some (.inl (((k + 1 : Nat) : Int), aC.mk (skip s) bad)) := by
  unfold fL
  have hlen : k < sgns.length := aO hg
  simp only [aX hlen, aNP, bV hg, aOp, aGN]
  unfold eatB eatR cutP
  rw [bM hlen (by decide)]
  cases aY (skip s) g <;> rfl
theorem aG9 {s : aA} {bad : Bool} : ∀ (m k : Nat) (s0 : aA), k + m = 6 -> skip s0 = skip s ->
    aR (fL sgns) ((k : Int), aC.mk s0 bad) = some (match (sgns.drop k).find? (fun g => aY (skip s) g) with
      | some g => (g, aC.mk ((skip s).drop g.length) bad)
      | none => ([], aC.mk (if m = 0 then s0 else skip s) bad)) := by
  intro m
  induction m with
  | zero =>
    intro k s0 hk hs
    have : k = 6 := by omega
    subst this
    rw [aS]
    rfl
  | succ m ih =>
    intro k s0 hk hs
    have hlt : k < sgns.length := by show k < 6; omega
    have hg := aOw hlt
    have hd := aOL hlt
    generalize sgns[k] = g at hg hd
    rw [aS, aG8 k hg (by omega), hd, hs]
    cases hb : aY (skip s) g with
    | true => rw [List.find?_cons_of_pos hb]; rfl
    | false =>
      rw [List.find?_cons_of_neg (by rw [hb]; simp), aNQ]
      show aR _ (((k + 1 : Nat) : Int), aC.mk (skip s) bad) = _
      rw [ih (k + 1) (skip s) (by omega) (vP s)]
      congr 1
      split
      · rfl
      · congr 2
        split <;> rfl
theorem aHa (u : aA) (hu : ∀ c t, u = c :: t -> blk c = false) : sgns.find? (fun g => aY u g) = match nxt u with
    | some (w, _) => if fR w = true then some w else none
    | none => none := by
  have hsk : ∀ c t, u = c :: t -> skip u = c :: t := fun c t h => by rw [h, vO, hu c t h]; rfl
  cases hux : u with
  | nil => rfl
  | cons c t =>
    have hs := hsk c t hux
    rw [hux] at hs
    rw [pU hs]
    have hwn := kS c t
    -- whether one of them stands first
    have two : ∀ (d : UInt8), aY (c :: t) [d, 61] = (c == d && t.head? == some 61) := fun d => by
      rw [kP, gE, aOP, aOG, pre1]
    unfold sgns
    simp only [List.find?_cons, List.find?_nil, two, gE]
    by_cases hop : sgnB c = true
    · -- a sign, or a sole one of these
      have f : (c == 39) = false /\ (c == 36) = false /\ fO c = false /\ (c == 45) = false := by
        unfold sgnB at hop
        simp only [Bool.or_eq_true, beq_iff_eq] at hop
        rcases hop with ((h | h) | h) | h <;> subst h <;> exact ⟨rfl, rfl, rfl, rfl⟩
      rw [f.1, aNQ, oY (by rw [gE]; exact f.2.1), f.2.2.1, f.2.2.2, hop, Bool.and_true] at hwn
      have hwn : fP (c :: t) = bif (t.head? == some 61) then 2 else bif oneB c then 1 else 0 := hwn
      rw [hwn]
      cases ht : (t.head? == some 61) with
      | true =>
        obtain ⟨u, rfl⟩ : ∃ u, t = 61 :: u := by
          cases t with
          | nil => cases ht
          | cons y u => exact ⟨u, by have := eq_of_beq ht; injection this with this; rw [this]⟩
        simp only [Bool.and_true, aNP]
        unfold sgnB at hop
        simp only [Bool.or_eq_true, beq_iff_eq] at hop
        rcases hop with ((h | h) | h) | h <;> subst h <;> rfl
      | false =>
        simp only [Bool.and_false, aNQ]
        unfold sgnB at hop
        simp only [Bool.or_eq_true, beq_iff_eq] at hop
        rcases hop with ((h | h) | h) | h <;> subst h <;> rfl
    · have hop : sgnB c = false := by cases hh : sgnB c with | false => rfl | true => exact absurd hh hop
      have f : (c == 61) = false /\ (c == 33) = false /\ (c == 60) = false /\ (c == 62) = false := by
        unfold sgnB at hop
        simp only [Bool.or_eq_false_iff] at hop
        exact ⟨hop.1.1.1, hop.1.1.2, hop.1.2, hop.2⟩
      simp only [f.1, f.2.1, f.2.2.1, f.2.2.2, Bool.false_and]
      by_cases h0 : fP (c :: t) = 0
      · rw [if_pos h0]
      · rw [if_neg h0]
        obtain ⟨k, hk⟩ : ∃ k, fP (c :: t) = k + 1 := ⟨fP (c :: t) - 1, by omega⟩
        rw [hk, aOF]
        have : fR (c :: t.take k) = false := by
          unfold fR
          have g : ∀ (d : UInt8) (r : aA), (c == d) = false -> ((c :: t.take k) == (d :: r)) = false := fun d r h => by
            show ((c == d) && _) = false
            rw [h]; rfl
          rw [g 61 _ f.1, g 33 _ f.2.1, g 60 _ f.2.2.1, g 62 _ f.2.2.2, g 60 _ f.2.2.1, g 62 _ f.2.2.2]; rfl
        dsimp only
        rw [this]; rfl
theorem aBW {s : aA} {bad : Bool} : jE (aC.mk s bad) = some (aKk s bad) := by
  unfold jE
  rw [show oI = some sgns from rfl, aOp]
  have h := aG9 (s := s) (bad := bad) 6 0 s rfl rfl
  rw [show (0 : Int) = ((0 : Nat) : Int) from rfl, h, aOG, aHa (skip s) (fun c t hc => zB hc), xV]
  unfold aKk
  cases hn : nxt s with
  | none => rfl
  | some x =>
    obtain ⟨w, s'⟩ := x
    dsimp only
    by_cases hw : fR w = true
    · rw [if_pos hw, if_pos hw]
      obtain ⟨_, _, h1, _⟩ := gP hn
      dsimp only
      rw [h1, List.drop_left' rfl]
    · rw [if_neg hw, if_neg hw]; rfl
theorem aF3 {d : UInt8} (hd : d = 40 ∨ d = 41 ∨ d = 38 ∨ d = 124) (t : aA) : fP (d :: t) = 1 /\ blk d = false := by
  rw [kS, oY (by rw [gE]; rcases hd with rfl | rfl | rfl | rfl <;> rfl)]
  rcases hd with rfl | rfl | rfl | rfl <;> exact ⟨by cases (t.head? == some 61) <;> rfl, rfl⟩
theorem aBX {d : UInt8} (hd : d = 40 ∨ d = 41 ∨ d = 38 ∨ d = 124) (s : aA) (bad : Bool) :
    (∃ s', nxt s = some ([d], s') /\ a8 (aC.mk s bad) [d] = some (true, aC.mk s' bad)) ∨
    ((∀ s', nxt s ≠ some ([d], s')) /\ a8 (aC.mk s bad) [d] = some (false, aC.mk (skip s) bad)) := by
  cases hs : aY (skip s) [d] with
  | true =>
    obtain ⟨t, ht⟩ := mH hs
    refine .inl ⟨t, ?_, aEg ht⟩
    rw [pU ht, (aF3 hd t).1]; rfl
  | false =>
    refine .inr ⟨fun s' h => ?_, aDa hs⟩
    obtain ⟨_, _, h1, _⟩ := gP h
    rw [h1] at hs
    rw [show aY ([d] ++ s') [d] = true from List.isPrefixOf_iff_prefix.2 ⟨s', rfl⟩] at hs
    cases hs
theorem aDb (t : aA) : fP (33 :: t) = if t.head? = some 61 then 2 else 1 := by
  rw [kS, oY (by rw [gE]; rfl)]
  show (bif (t.head? == some 61) && true then 2 else 1) = _
  by_cases h : t.head? = some 61
  · rw [if_pos h, h]; rfl
  · rw [if_neg h]
    have : (t.head? == some 61) = false := by simpa using h
    rw [this]; rfl
theorem aKl (s : aA) (bad : Bool) :
    (∃ s', nxt s = some ([33], s') /\ a8 (aC.mk s bad) [33] = some (true, aC.mk s' bad)) ∨
    (∃ s' t, nxt s = some ([33, 61], s') /\ s' = t /\ a8 (aC.mk s bad) [33] = some (true, aC.mk (61 :: t) bad) /\ t.length < s.length) ∨
    ((∀ s', nxt s ≠ some ([33], s')) /\ (∀ s', nxt s ≠ some ([33, 61], s')) /\ a8 (aC.mk s bad) [33] = some (false, aC.mk (skip s) bad)) := by
  cases hs : aY (skip s) [33] with
  | true =>
    obtain ⟨t, ht⟩ := mH hs
    by_cases h61 : t.head? = some 61
    · obtain ⟨u, rfl⟩ : ∃ u, t = 61 :: u := by
        cases t with
        | nil => cases h61
        | cons y u => exact ⟨u, by injection h61 with h61; rw [h61]⟩
      refine .inr (.inl ⟨u, u, ?_, rfl, aEg ht, ?_⟩)
      · rw [pU ht, aDb, if_pos h61]; rfl
      · have := qV s
        rw [ht, aOq, aOq] at this; omega
    · refine .inl ⟨t, ?_, aEg ht⟩
      rw [pU ht, aDb, if_neg h61]; rfl
  | false =>
    refine .inr (.inr ⟨fun s' h => ?_, fun s' h => ?_, aDa hs⟩)
    · obtain ⟨_, _, h1, _⟩ := gP h
      rw [h1, show aY ([33] ++ s') [33] = true from List.isPrefixOf_iff_prefix.2 ⟨s', rfl⟩] at hs
      cases hs
    · obtain ⟨_, _, h1, _⟩ := gP h
      rw [h1, show aY ([33, 61] ++ s') [33] = true from List.isPrefixOf_iff_prefix.2 ⟨61 :: s', rfl⟩] at hs
      cases hs
abbrev Res := Option (aB × List aA)
def pOne (any : List aA -> Res) : Nat -> List aA -> Res
  | 0, _ => none
  | _ + 1, [] => none
  | m + 1, w :: l => if w = [33] then (pOne any m l).map (fun p => (aB.mk 4 0 [] [] [p.1], p.2))
    else if w = [40] then (match any l with
      | some (x, c :: r) => if c = [41] then some (x, r) else none
      | _ => none)
    else if (dR w).Kind = 0 then none else (match l with
      | [] => some (dR w, [])
      | g :: l2 => if fR g = true then (match l2 with
        | [] => none
        | w2 :: r => if (dR w2).Kind = 0 then none else some (aB.mk 7 0 [] g [dR w, dR w2], r)) else some (dR w, g :: l2))
theorem mI (any : List aA -> Res) (m : Nat) (w : aA) (l : List aA) : pOne any (m + 1) (w :: l) = if w = [33] then (pOne any m l).map (fun p => (aB.mk 4 0 [] [] [p.1], p.2))
    else if w = [40] then (match any l with
      | some (x, c :: r) => if c = [41] then some (x, r) else none
      | _ => none)
    else if (dR w).Kind = 0 then none else (match l with
      | [] => some (dR w, [])
      | g :: l2 => if fR g = true then (match l2 with
        | [] => none
        | w2 :: r => if (dR w2).Kind = 0 then none else some (aB.mk 7 0 [] g [dR w, dR w2], r)) else some (dR w, g :: l2)) := by rw [pOne.eq_def]
def uB (one : List aA -> Res) (by_ : aA) : Nat -> List aA -> Option (List aB × List aA)
  | 0, _ => none
  | _ + 1, [] => some ([], [])
  | m + 1, w :: l => if w = by_ then (match one l with
      | none => none
      | some (x, r) => (uB one by_ m r).map fun p => (x :: p.1, p.2)) else some ([], w :: l)
def aBY (kind : Int) (x : aB) (xs : List aB) : aB := bif xs.isEmpty then x else aB.mk kind 0 [] [] (x :: xs)
def pRow (one : List aA -> Res) (kind : Int) (by_ : aA) (m : Nat) (l : List aA) : Res := match one l with
  | none => none
  | some (x, r) => match uB one by_ m r with
    | none => none
    | some (xs, r') => some (aBY kind x xs, r')
def pAny : Nat -> List aA -> Res
  | 0 => fun _ => none
  | n + 1 => fun l => pRow (fun l => pRow (pOne (pAny n) (n + 1)) 5 [38] (n + 1) l) 6 [124] (n + 1) l
def Sim (o : Res) (ok : Bool) (len : Nat) (res : Option (aB × aC)) : Prop := ∃ x st, res = some (x, st) /\ match o with
  | none => st = aC.mk [] true
  | some (y, r) => x = y /\ st.bad = false /\ lexW st.s = (r, ok) /\ st.s.length < len
theorem zD {d : UInt8} (bad : Bool) : a8 (aC.mk [] bad) [d] = some (false, aC.mk [] bad) := aDa (s := []) rfl
theorem aHb (A : aC -> Option (aB × aC)) (M : Nat) {t : aA} (ht : (61 :: t).length <= 100000) : eM A (M + 1) (aC.mk (61 :: t) false) = some (fQ, aC.mk [] true) := by
  show fM A (eM A M) _ = _
  unfold fM
  have hsk : skip (61 :: t) = 61 :: t := by rw [vO]; rfl
  have e1 : a8 (aC.mk (61 :: t) false) [33] = some (false, aC.mk (61 :: t) false) := by
    have := aDa (s := 61 :: t) (p := [33]) (bad := false) (by rw [hsk, gE]; rfl)
    rw [hsk] at this; exact this
  have e2 : a8 (aC.mk (61 :: t) false) [40] = some (false, aC.mk (61 :: t) false) := by
    have := aDa (s := 61 :: t) (p := [40]) (bad := false) (by rw [hsk, gE]; rfl)
    rw [hsk] at this; exact this
  have e3 : simT (61 :: t) false = (fQ, aC.mk [] true) := by
    unfold simT
    rw [pU hsk]
    by_cases h0 : fP (61 :: t) = 0
    · rw [if_pos h0]
    · rw [if_neg h0]
      obtain ⟨k, hk⟩ : ∃ k, fP (61 :: t) = k + 1 := ⟨fP (61 :: t) - 1, by omega⟩
      rw [hk, aOF]
      dsimp only
      rw [sK rfl rfl rfl rfl]; rfl
  rw [aNQ, e1, aOp, aNQ, e2, aOp, aNQ, zC ht, e3, aOp, aBW, aOp]; rfl
theorem aKm {A : aC -> Option (aB × aC)} {P : List aA -> Res} {N : Nat} (hN : N <= 100000)
    (hA : ∀ s, s.length < N -> Sim (P (lexW s).1) (lexW s).2 s.length (A (aC.mk s false))) :
    ∀ (m M : Nat) (s : aA), s.length <= N -> s.length < m -> s.length < M -> Sim (pOne P m (lexW s).1) (lexW s).2 s.length (eM A M (aC.mk s false)) := by
  intro m
  induction m with
  | zero => intro M s _ h _; omega
  | succ m ih =>
    intro M s hs hm hM
    obtain ⟨M, rfl⟩ : ∃ M', M = M' + 1 := ⟨M - 1, by omega⟩
    show Sim _ _ _ (fM A (eM A M) _)
    unfold fM
    rw [aNQ]
    rcases aKl s false with ⟨s', hn, he⟩ | ⟨s', t, hn, rfl, he, hlt⟩ | ⟨hn1, hn2, he⟩
    · -- it is not
      obtain ⟨hl, _, _, hlen, _⟩ := gP hn
      rw [he, aOp, aNP]
      dsimp only
      obtain ⟨x, st, h1, h2⟩ := ih M s' (by omega) (by omega) (by omega)
      rw [h1, aOp, hl]
      dsimp only
      rw [mI, if_pos rfl]
      cases hp : pOne P m (lexW s').1 with
      | none =>
        rw [hp] at h2
        exact ⟨_, _, rfl, h2⟩
      | some p =>
        rw [hp] at h2
        obtain ⟨y, r⟩ := p
        obtain ⟨rfl, h3, h4, h5⟩ := h2
        exact ⟨_, _, rfl, rfl, h3, h4, Nat.lt_trans h5 hlen⟩
    · -- '!=' where a part should begin
      obtain ⟨hl, _, _, hlen, _⟩ := gP hn
      have hM' : ∃ M', M = M' + 1 := ⟨M - 1, by omega⟩
      obtain ⟨M', rfl⟩ := hM'
      rw [he, aOp, aNP]
      dsimp only
      rw [aHb A M' (by rw [aOq]; omega), aOp, hl]
      have : pOne P (m + 1) ([33, 61] :: (lexW s').1) = none := by
        rw [mI, if_neg (by decide), if_neg (by decide), sK rfl rfl rfl rfl]; rfl
      rw [this]
      exact ⟨_, _, rfl, rfl⟩
    · rw [he, aOp, aNQ]
      dsimp only
      have hsk := qV s
      rcases aBX (d := 40) (.inl rfl) (skip s) false with ⟨s', hn, he2⟩ | ⟨hn3, he2⟩
      · -- aB3
        rw [xV] at hn
        obtain ⟨hl, _, _, hlen, _⟩ := gP hn
        rw [he2, aOp, aNP]
        dsimp only
        obtain ⟨x, st, h1, h2⟩ := hA s' (by omega)
        rw [h1, aOp, hl]
        have hp1 : pOne P (m + 1) ([40] :: (lexW s').1) = (match P (lexW s').1 with
            | some (x, c :: r) => if c = [41] then some (x, r) else none
            | _ => none) := by rw [mI, if_neg (by decide), if_pos rfl]
        rw [hp1]
        cases hp : P (lexW s').1 with
        | none =>
          rw [hp] at h2
          dsimp only at h2 ⊢
          rw [h2, zD, aOp]
          exact ⟨_, _, rfl, rfl⟩
        | some p =>
          rw [hp] at h2
          obtain ⟨y, r⟩ := p
          obtain ⟨h3, h4, h5, h6⟩ := h2
          obtain ⟨s2, b2⟩ := st
          dsimp only at h4 h5 h6 ⊢
          subst h4 h3
          rcases aBX (d := 41) (.inr (.inl rfl)) s2 false with ⟨s3, hn4, he4⟩ | ⟨hn4, he4⟩
          · obtain ⟨hl4, _, _, hlen4, _⟩ := gP hn4
            rw [hl4] at h5
            injection h5 with h5 h7
            subst h5
            rw [he4, aOp]
            show Sim (if ([41] : aA) = [41] then some (x, (lexW s3).1) else none) _ _ _
            rw [if_pos rfl]
            exact ⟨_, _, rfl, rfl, rfl, by show lexW s3 = _; rw [<- h7], by show s3.length < _; omega⟩
          · rw [he4, aOp]
            have : (match r with
                | c :: r' => if c = [41] then some (x, r') else none
                | [] => none : Res) = none := by
              cases r with
              | nil => rfl
              | cons c r' =>
                dsimp only
                split
                · rename_i hc
                  subst hc
                  exfalso
                  cases hnx : nxt s2 with
                  | none => rw [nC hnx] at h5; cases h5
                  | some q =>
                    obtain ⟨w, s3⟩ := q
                    obtain ⟨hl5, _⟩ := gP hnx
                    rw [hl5] at h5
                    injection h5 with h5 _
                    injection h5 with h5 _
                    subst h5
                    exact hn4 s3 hnx
                · rfl
            cases r with
            | nil => exact ⟨_, _, rfl, rfl⟩
            | cons c r' =>
              dsimp only at this ⊢
              rw [this]
              exact ⟨_, _, rfl, rfl⟩
      · -- a simple part
        rw [vP] at he2
        rw [he2, aOp, aNQ]
        dsimp only
        rw [zC (by omega), aOp]
        unfold simT
        rw [xV]
        cases hn : nxt s with
        | none =>
          rw [nC hn]
          dsimp only
          rw [aBW, aOp]
          exact ⟨_, _, rfl, rfl⟩
        | some p =>
          obtain ⟨w, s'⟩ := p
          obtain ⟨hl, hw0, _, hlen, _⟩ := gP hn
          have hw33 : w ≠ [33] := fun e => hn1 s' (by rw [hn, e])
          have hw40 : w ≠ [40] := fun e => hn3 s' (by rw [xV, hn, e])
          rw [hl]
          dsimp only
          rw [mI, if_neg hw33, if_neg hw40]
          by_cases hk : (dR w).Kind = 0
          · rw [if_pos hk, if_pos hk]
            dsimp only
            rw [aBW, aOp]
            exact ⟨_, _, rfl, rfl⟩
          · rw [if_neg hk, if_neg hk]
            dsimp only
            rw [aBW, aOp]
            unfold aKk
            cases hn2' : nxt s' with
            | none =>
              rw [nC hn2']
              dsimp only
              refine ⟨_, _, rfl, rfl, rfl, ?_, by show (skip s').length < _; have := qV s'; omega⟩
              show lexW (skip s') = _
              rw [lL, nC hn2']
            | some q =>
              obtain ⟨g, s2⟩ := q
              obtain ⟨hl2, hg0, _, hlen2, _⟩ := gP hn2'
              rw [hl2]
              dsimp only
              by_cases hg : fR g = true
              · rw [if_pos hg, if_pos hg]
                dsimp only
                have : (g == ([] : aA)) = false := by cases g with | nil => exact absurd rfl hg0 | cons => rfl
                rw [this, aNQ, zC (by omega), aOp]
                unfold simT
                cases hn5 : nxt s2 with
                | none =>
                  rw [nC hn5]
                  exact ⟨_, _, rfl, rfl⟩
                | some q =>
                  obtain ⟨w2, s3⟩ := q
                  obtain ⟨hl5, _, _, hlen5, _⟩ := gP hn5
                  rw [hl5]
                  dsimp only
                  by_cases hk2 : (dR w2).Kind = 0
                  · rw [if_pos hk2, if_pos hk2]
                    exact ⟨_, _, rfl, rfl⟩
                  · rw [if_neg hk2, if_neg hk2]
                    exact ⟨_, _, rfl, rfl, rfl, rfl, by show s3.length < _; omega⟩
              · rw [if_neg hg, if_neg hg]
                refine ⟨_, _, rfl, rfl, rfl, ?_, by show (skip s').length < _; have := qV s'; omega⟩
                show lexW (skip s') = _
                rw [lL, hl2]
noncomputable def sL (one : aC -> Option (aB × aC)) (by_ : aA) (x : (List aB) × aC) : Option (((List aB) × aC) ⊕ ((List aB) × aC)) :=
  match x with
  | (s3, s4) =>
    (a8 s4 by_).bind fun x5 =>
    bif x5.1 then
      (one (x5.2)).bind fun x6 =>
      (app 72 s3 ([(x6.1)] : List aB)).bind fun x7 =>
      some (.inl (x7, (x6.2)))
    else
      some (.inr (s3, (x5.2)))
noncomputable def aE5 (one : aC -> Option (aB × aC)) (o0 : aC) (a1 : Int) (a2 : aA) : Option (aB × aC) :=
  (one o0).bind fun x1 =>
  (aR (sL one a2) (([(x1.1)] : List aB), (x1.2)) : Option ((List aB) × aC)).bind fun j2 =>
  bif (((j2.1).length : Int) == (1 : Int)) then
    (idx (j2.1) (0 : Int)).bind fun x8 =>
    some (x8, (j2.2))
  else
    some ((aB.mk a1 (0 : Int) ([] : aA) ([] : aA) (j2.1)), (j2.2))
theorem aHc (A : aC -> Option (aB × aC)) (o0 : aC) (a1 : Int) (a2 : aA) : dC A o0 a1 a2 = aE5 (mC A) o0 a1 a2 := rfl
theorem aHd (A : aC -> Option (aB × aC)) (o0 : aC) (a1 : Int) (a2 : aA) : cW A o0 a1 a2 = aE5 (gU A) o0 a1 a2 := rfl
theorem aDc {α β : Type} (o : Option (α × β)) : (o.bind fun x => some (x.1, x.2)) = o := by cases o <;> rfl
section
variable {one : aC -> Option (aB × aC)} {P : List aA -> Res} {N : Nat} (hN : N <= 100000) {d : UInt8} (hd : d = 40 ∨ d = 41 ∨ d = 38 ∨ d = 124)
  (h1 : ∀ s, s.length <= N -> Sim (P (lexW s).1) (lexW s).2 s.length (one (aC.mk s false)))
include hN hd h1
theorem aIV : ∀ (m : Nat) (s : aA) (acc : List aB), s.length <= N -> s.length < m -> acc.length + s.length <= 200000 -> ∃ acc' st, aR (sL one [d]) (acc, aC.mk s false) = some (acc', st) /\ match uB P [d] m (lexW s).1 with
    | none => st = aC.mk [] true /\ 1 <= acc'.length
    | some (xs, r) => acc' = acc ++ xs /\ st.bad = false /\ lexW st.s = (r, (lexW s).2) /\ st.s.length <= s.length := by
  intro m
  induction m with
  | zero => intro s acc _ h; omega
  | succ m ih =>
    intro s acc hs hm hacc
    rw [aS]
    rcases aBX hd s false with ⟨s', hn, he⟩ | ⟨hn, he⟩
    · obtain ⟨hl, _, _, hlen, _⟩ := gP hn
      obtain ⟨x, st, e1, e2⟩ := h1 s' (by omega)
      have hb : sL one [d] (acc, aC.mk s false) = some (.inl (acc ++ [x], st)) := by
        unfold sL
        dsimp only
        rw [he, aOp, aNP]
        dsimp only
        rw [e1, aOp, n9 (by simp; omega) (by omega)]; rfl
      rw [hb, hl]
      show ∃ acc' st', aR (sL one [d]) (acc ++ [x], st) = _ /\ _
      have hp : uB P [d] (m + 1) ([d] :: (lexW s').1) = (match P (lexW s').1 with
        | none => none
        | some (x, r) => (uB P [d] m r).map fun p => (x :: p.1, p.2)) := by rw [uB, if_pos rfl]
      rw [hp]
      cases hq : P (lexW s').1 with
      | none =>
        rw [hq] at e2
        dsimp only at e2 ⊢
        rw [e2, aS]
        have : sL one [d] (acc ++ [x], aC.mk [] true) = some (.inr (acc ++ [x], aC.mk [] true)) := by
          unfold sL
          dsimp only
          rw [zD]; rfl
        rw [this]
        exact ⟨_, _, rfl, rfl, by simp⟩
      | some p =>
        rw [hq] at e2
        obtain ⟨y, r⟩ := p
        obtain ⟨q1, q2, q3, q4⟩ := e2
        obtain ⟨s2, b2⟩ := st
        dsimp only at q2 q3 q4 ⊢
        subst q1 q2
        obtain ⟨acc', st', g1, g2⟩ := ih s2 (acc ++ [x]) (by omega) (by omega) (by rw [aOr, aOs]; omega)
        refine ⟨acc', st', g1, ?_⟩
        rw [q3] at g2
        dsimp only at g2
        cases hw : uB P [d] m r with
        | none => rw [hw] at g2; exact g2
        | some p =>
          rw [hw] at g2
          obtain ⟨xs, r'⟩ := p
          dsimp only at g2 ⊢
          obtain ⟨g3, g4, g5, g6⟩ := g2
          exact ⟨by rw [g3]; simp, g4, g5, by omega⟩
    · have hb : sL one [d] (acc, aC.mk s false) = some (.inr (acc, aC.mk (skip s) false)) := by
        unfold sL
        dsimp only
        rw [he]; rfl
      rw [hb]
      refine ⟨_, _, rfl, ?_⟩
      have hsl := qV s
      cases hn2 : nxt s with
      | none =>
        rw [nC hn2]
        exact ⟨(aOH _).symm, rfl, by show lexW (skip s) = _; rw [lL, nC hn2], hsl⟩
      | some p =>
        obtain ⟨w, s'⟩ := p
        obtain ⟨hl, _, _, hlen, _⟩ := gP hn2
        rw [hl]
        have hw : w ≠ [d] := fun e => hn s' (by rw [hn2, e])
        rw [uB, if_neg hw]
        exact ⟨(aOH _).symm, rfl, by show lexW (skip s) = _; rw [lL, hl], hsl⟩
theorem aHe (kind : Int) (m : Nat) (s : aA) (hs : s.length <= N) (hm : s.length < m) : Sim (pRow P kind [d] m (lexW s).1) (lexW s).2 s.length (aE5 one (aC.mk s false) kind [d]) := by
  obtain ⟨x, st, e1, e2⟩ := h1 s hs
  unfold aE5 pRow
  rw [e1, aOp]
  cases hq : P (lexW s).1 with
  | none =>
    rw [hq] at e2
    dsimp only at e2 ⊢
    rw [e2, aS]
    have : sL one [d] ([x], aC.mk [] true) = some (.inr ([x], aC.mk [] true)) := by
      unfold sL
      dsimp only
      rw [zD]; rfl
    rw [this]
    exact ⟨_, _, rfl, rfl⟩
  | some p =>
    rw [hq] at e2
    obtain ⟨y, r⟩ := p
    obtain ⟨q1, q2, q3, q4⟩ := e2
    obtain ⟨s2, b2⟩ := st
    dsimp only at q2 q3 q4 ⊢
    subst q1 q2
    obtain ⟨acc', st', g1, g2⟩ := aIV hN hd h1 m s2 [x] (by omega) (by omega) (by rw [aOs]; omega)
    rw [g1, aOp]
    rw [q3] at g2
    dsimp only at g2 ⊢
    cases hw : uB P [d] m r with
    | none =>
      rw [hw] at g2
      obtain ⟨g3, g4⟩ := g2
      dsimp only
      subst g3
      cases acc' with
      | nil => simp at g4
      | cons a l => cases ((((a :: l).length : Nat) : Int) == (1 : Int)) <;> exact ⟨_, _, rfl, rfl⟩
    | some p =>
      rw [hw] at g2
      obtain ⟨xs, r'⟩ := p
      dsimp only at g2 ⊢
      obtain ⟨g3, g4, g5, g6⟩ := g2
      subst g3
      unfold aBY
      cases xs with
      | nil => exact ⟨_, _, rfl, rfl, g4, g5, by omega⟩
      | cons a l =>
        have : (((([x] ++ a :: l).length : Nat) : Int) == (1 : Int)) = false := by simp; omega
        rw [this]
        exact ⟨_, _, rfl, rfl, g4, g5, by omega⟩
end
theorem aKn : ∀ (n M : Nat) (s : aA), s.length <= 50000 -> s.length < n -> s.length < M -> Sim (pAny n (lexW s).1) (lexW s).2 s.length (gV M (aC.mk s false)) := by
  intro n
  induction n with
  | zero => intro M s _ h; omega
  | succ n ih =>
    intro M s hs hn hM
    obtain ⟨M, rfl⟩ : ∃ M', M = M' + 1 := ⟨M - 1, by omega⟩
    show Sim _ _ _ (iX (gV M) _)
    unfold iX
    rw [aDc, aHd]
    refine aHe (N := s.length) (by omega) (d := 124) (.inr (.inr (.inr rfl))) (P := fun l => pRow (pOne (pAny n) (n + 1)) 5 [38] (n + 1) l) (fun s1 h1 => ?_) 6 (n + 1) s (aOv _) (by omega)
    unfold gU
    rw [aDc, aHc]
    refine aHe (N := s.length) (by omega) (d := 38) (.inr (.inr (.inl rfl))) (P := pOne (pAny n) (n + 1)) (fun s2 h2 => ?_) 5 (n + 1) s1 h1 (by omega)
    exact aKm (N := s.length) (by omega) (fun s3 h3 => ih M s3 (by omega) (by omega) (by omega)) (n + 1) 1000000 s2 h2 (by omega) (by omega)
mutual
def sz : aB -> Nat
  | ⟨_, _, _, _, kids⟩ => 1 + szs kids
def szs : List aB -> Nat
  | [] => 0
  | x :: l => sz x + szs l
end
theorem sM (x : aB) : sz x = 1 + szs x.Kids := by cases x; rw [sz]
theorem mJ (x : aB) (l : List aB) : szs (x :: l) = sz x + szs l := by rw [szs]
theorem wO : szs [] = 0 := by rw [szs]
theorem pV (x : aB) : 1 <= sz x := by rw [sM]; omega
theorem tI : ∀ (a b : List aB), szs (a ++ b) = szs a + szs b
  | [], b => by rw [wO]; simp
  | x :: a, b => by rw [aOD, mJ, mJ, tI a b]; omega
theorem nZ : ∀ (l : List aB), l.length <= szs l
  | [] => by simp
  | x :: l => by have := nZ l; have := pV x; rw [mJ, aOq]; omega
theorem sN {x : aB} : ∀ {l : List aB}, x ∈ l -> sz x <= szs l
  | y :: l, h => by
    rw [mJ]
    rcases List.mem_cons.1 h with rfl | h
    · omega
    · have := sN h; omega
theorem aDd {x k : aB} (h : k ∈ x.Kids) : sz k < sz x := by have := sN h; rw [sM x]; omega
theorem aE6 {l : List aB} {i : Nat} (h : i < l.length) : szs (l.drop i) = sz l[i] + szs (l.drop (i + 1)) := by
  rw [aOL h, mJ]
theorem aJH (x : aB) : pP x = some (decide (sz x <= 60)) := by
  unfold pP
  have := oT (body := lT) (fun y => decide (y.2.toNat + szs (y.1.drop y.2.toNat) <= 60)) (fun y => 61 - y.2.toNat) (fun y => ∃ i : Nat, y.2 = (i : Int) /\ i <= y.1.length /\ y.1.length <= 60) (fun y hy => ?_) ([x], 0) ⟨0, rfl, by simp, by simp⟩
  · rw [this]
    simp [mJ, wO]
  · obtain ⟨l, i0⟩ := y
    obtain ⟨i, hi, hil, hl⟩ := hy
    dsimp only at hi hil hl ⊢
    subst hi
    rw [Int.toNat_natCast]
    rcases Nat.lt_or_ge i l.length with hlt | hge
    · have hx := aOw hlt
      have hs := aE6 hlt
      have hrest := nZ (l.drop (i + 1))
      rw [aOA] at hrest
      generalize l[i] = q at hx hs
      have hq := sM q
      have hql := nZ q.Kids
      have hb : lT (l, (i : Int)) = bif decide ((q.Kids.length : Int) > (60 : Int) - (l.length : Int)) then some (.inr false) else (app 72 l q.Kids).bind fun x5 => some (.inl (x5, ((i + 1 : Nat) : Int))) := by
        unfold lT
        simp only [aX hlt, aNP, bV hx, aOp]
        rw [wrap_i64 (n := (60 : Int) - (l.length : Int)) (by omega) (by omega), bM hlt (by unfold maxLen; omega)]
      rw [hb]
      by_cases hk : (q.Kids.length : Int) > (60 : Int) - (l.length : Int)
      · refine .inr ?_
        rw [decide_eq_true hk, aNP, decide_eq_false (by omega)]
      · rw [decide_eq_false hk, aNQ, n9 (by omega) (by omega), aOp]
        refine .inl ⟨_, rfl, ⟨i + 1, rfl, ?_, ?_⟩, ?_, ?_⟩
        · dsimp only; rw [aOr]; omega
        · dsimp only; rw [aOr]; omega
        · simp only [Int.toNat_natCast]; omega
        · simp only [Int.toNat_natCast]
          have e : szs ((l ++ q.Kids).drop (i + 1)) = szs (l.drop (i + 1)) + szs q.Kids := by rw [List.drop_append_of_le_length (by omega), tI]
          exact decide_eq_decide.2 (by rw [e, hs]; omega)
    · have : i = l.length := by omega
      subst this
      refine .inr ?_
      unfold lT
      dsimp only
      rw [bP, List.drop_length, wO, decide_eq_true (by omega)]; rfl
def mn61 (n : Nat) : Nat := if n <= 60 then n else 61
theorem aKo {l : List aB} {q : aB} (hl : l.length <= 60) (hk : q.Kids.length <= maxLen) : aR (dM 60 q) (l, (0 : Int)) = some (l ++ q.Kids.take (61 - l.length)) := by
  have hf : ∀ (ks acc : List aB), acc.length <= 61 -> j8 (ρ := List aB) (fun (a : List aB) k => .inl (bif decide ((a.length : Int) <= 60) then a ++ [k] else a)) (fun a => a) ks acc = acc ++ ks.take (61 - acc.length) := by
    intro ks
    induction ks with
    | nil => intro acc _; simp [j8]
    | cons k ks ih =>
      intro acc hacc
      rw [kN]
      by_cases h : (acc.length : Int) <= 60
      · rw [decide_eq_true h]
        show j8 _ _ ks (acc ++ [k]) = _
        rw [ih (acc ++ [k]) (by simp; omega), aOr, aOs]
        obtain ⟨j, hj⟩ : ∃ j, 61 - acc.length = j + 1 := ⟨60 - acc.length, by omega⟩
        rw [hj, aOF, show 61 - (acc.length + 1) = j by omega]; simp
      · rw [decide_eq_false h]
        show j8 _ _ ks acc = _
        rw [ih acc hacc, show 61 - acc.length = 0 by omega]; simp
  rw [<- hf q.Kids l (by omega)]
  refine lJ (body := dM 60 q) q.Kids (fun i (a : List aB) => (a, (i : Int))) _ _ (fun _ a => a.length <= 61) (fun i a k hx ha => ?_) (fun a ha => ?_) l (by omega)
  · refine .inl ⟨_, rfl, ?_, ?_⟩
    · unfold dM
      simp only [aX (aO hx), aNP, bV hx, aOp]
      rw [bM (aO hx) hk]
      by_cases h : (a.length : Int) <= 60
      · rw [decide_eq_true h, aNP, aNP, n9 (by simp; omega) (by omega)]; rfl
      · rw [decide_eq_false h]; rfl
    · by_cases h : (a.length : Int) <= 60
      · rw [decide_eq_true h]; simp; omega
      · rw [decide_eq_false h]; exact ha
  · unfold dM
    simp only [bP, aNQ]
inductive KOk : aB -> Prop
  | mk (x : aB) (h : x.Kids.length <= maxLen) (hk : ∀ k, k ∈ x.Kids -> KOk k) (ht : x.Text.length <= maxLen) : KOk x
theorem KOk.at_ {x : aB} (h : KOk x) : x.Kids.length <= maxLen /\ ∀ k, k ∈ x.Kids -> KOk k := by cases h with | mk _ h hk _ => exact ⟨h, hk⟩
theorem KOk.text {x : aB} (h : KOk x) : x.Text.length <= maxLen := by cases h with | mk _ h hk ht => exact ht
theorem aEh {x : aB} (hx : KOk x) : d4 x 60 = some ((mn61 (sz x) : Nat) : Int) := by
  unfold d4
  -- what comes out: as many as there are
  have key : ∀ (m i : Nat) (l : List aB), 61 <= m + i -> i <= l.length -> l.length <= 61 -> (∀ q, q ∈ l -> KOk q) -> ∃ r, aR (bO 60) (l, (i : Int)) = some r /\ r.length = mn61 (i + szs (l.drop i)) := by
    intro m
    induction m with
    | zero =>
      intro i l hm hi hl _
      have hi61 : i = 61 := by omega
      have hl61 : l.length = 61 := by omega
      refine ⟨l, ?_, ?_⟩
      · rw [aS]
        unfold bO
        dsimp only
        rw [hl61, hi61, show decide ((((61 : Nat)) : Int) < ((61 : Nat) : Int)) = false from bP 61]; rfl
      · unfold mn61; rw [if_neg (by omega)]; exact hl61
    | succ m ih =>
      intro i l hm hi hl hq1
      rw [aS]
      by_cases hlt : i < l.length
      · by_cases hl60 : l.length <= 60
        · have hx := aOw hlt
          have hmem := List.getElem_mem hlt
          have hs := aE6 hlt
          have hrest := nZ (l.drop (i + 1))
          rw [aOA] at hrest
          generalize l[i] = q at hx hs hmem
          have hq := sM q
          have hql := nZ q.Kids
          have hqk := (hq1 q hmem).at_.1
          have hb : bO 60 (l, (i : Int)) = some (.inl (l ++ q.Kids.take (61 - l.length), ((i + 1 : Nat) : Int))) := by
            unfold bO
            have e : decide ((l.length : Int) <= (60 : Int)) = true := decide_eq_true (by omega)
            simp only [aX hlt, e, aNP, bV hx, aOp, aKo hl60 hqk]
            rw [bM hlt (by unfold maxLen; omega)]
          rw [hb]
          have hin := (hq1 q hmem).at_.2
          obtain ⟨r, h1, h2⟩ := ih (i + 1) (l ++ q.Kids.take (61 - l.length)) (by omega) (by rw [aOr]; omega) (by rw [aOr, aOM]; omega)
            (fun p hp => by
              rcases List.mem_append.1 hp with hp | hp
              · exact hq1 p hp
              · exact hin p (List.mem_of_mem_take hp))
          refine ⟨r, h1, ?_⟩
          rw [h2, List.drop_append_of_le_length (by omega), tI, hs]
          unfold mn61
          by_cases hfit : l.length + q.Kids.length <= 61
          · rw [List.take_of_length_le (by omega)]
            have : i + 1 + (szs (l.drop (i + 1)) + szs q.Kids) = i + (sz q + szs (l.drop (i + 1))) := by omega
            rw [this]
          · have h3 := nZ (q.Kids.take (61 - l.length))
            rw [aOM] at h3
            rw [if_neg (by omega), if_neg (by omega)]
        · have hb : bO 60 (l, (i : Int)) = some (.inr l) := by
            unfold bO
            have e : decide ((l.length : Int) <= (60 : Int)) = false := decide_eq_false (by omega)
            simp only [aX hlt, e, aNP, aNQ]
          rw [hb]
          refine ⟨l, rfl, ?_⟩
          have h3 := nZ (l.drop i)
          rw [aOA] at h3
          unfold mn61
          rw [if_neg (by omega)]; omega
      · have : i = l.length := by omega
        subst this
        have hb : bO 60 (l, ((l.length : Nat) : Int)) = some (.inr l) := by
          unfold bO
          simp only [bP, aNQ]
        rw [hb]
        refine ⟨l, rfl, ?_⟩
        rw [List.drop_length, wO]
        unfold mn61
        by_cases h : l.length + 0 <= 60
        · rw [if_pos h]; omega
        · rw [if_neg h]; omega
  obtain ⟨r, h1, h2⟩ := key 61 0 [x] (by omega) (by simp) (by simp) (fun q hq => by rw [List.mem_singleton.1 hq]; exact hx)
  rw [show (0 : Int) = ((0 : Nat) : Int) from rfl, h1, aOp, h2, aOG, mJ, wO]
  simp
def rowN (x : aB) : Int := bif x.Kind == 5 || x.Kind == 6 then 1 else 0
mutual
def dp : aB -> Int
  | ⟨k, _, _, _, kids⟩ => dps kids 0 + (bif k == 4 then 1 else 0)
def dps : List aB -> Int -> Int
  | [], a => a
  | x :: l, a => dps l (imax a (dp x + rowN x))
end
theorem aIW (x : aB) : dp x = dps x.Kids 0 + (bif x.Kind == 4 then 1 else 0) := by cases x; rw [dp]
theorem aBZ (x : aB) (l : List aB) (a : Int) : dps (x :: l) a = dps l (imax a (dp x + rowN x)) := by rw [dps]
theorem aEi (x : aB) : 0 <= rowN x /\ rowN x <= 1 := by unfold rowN; cases (x.Kind == 5 || x.Kind == 6) <;> simp
theorem aKp {a b c : Int} (h1 : a <= c) (h2 : b <= c) : imax a b <= c := by unfold imax; split <;> omega
theorem aHf {a b : Int} : a <= imax a b := by unfold imax; split <;> omega
theorem vQ : ∀ (n : Nat) (x : aB), sz x <= n -> 0 <= dp x /\ dp x <= 2 * (sz x : Int) := by
  intro n
  induction n with
  | zero => intro x h; have := pV x; omega
  | succ n ih =>
    intro x h
    have hl : ∀ (l : List aB) (a c : Int), szs l <= n -> 0 <= a -> a <= c -> 2 * (szs l : Int) + 1 <= c -> 0 <= dps l a /\ dps l a <= c := by
      intro l
      induction l with
      | nil => intro a c _ h0 h1 _; rw [dps]; exact ⟨h0, h1⟩
      | cons k l ihl =>
        intro a c hs h0 h1 h2
        rw [mJ] at hs h2
        have hk := ih k (by omega)
        have hr := aEi k
        rw [aBZ]
        have hg := @aHf a (dp k + rowN k)
        exact ihl _ c (by omega) (by omega) (aKp h1 (by omega)) (by omega)
    rw [aIW]
    have hs := sM x
    have h1 := hl x.Kids 0 (2 * (szs x.Kids : Int) + 1) (by omega) (by omega) (by omega) (by omega)
    cases x.Kind == 4 <;> simp <;> omega
theorem aJI (x : aB) : tC x = some (x.Kind == 5 || x.Kind == 6) := by
  unfold tC; cases x.Kind == 5 <;> rfl
theorem aB0 (x : aB) : bG x = some (x.Kind == 5 || x.Kind == 6) := by
  unfold bG; cases x.Kind == 5 <;> rfl
theorem aB1 : ∀ (l : List aB) (a : Int), j8 (ρ := Int) (fun (a : Int) k => .inl (imax a (dp k + rowN k))) (fun a => a) l a = dps l a
  | [], a => by rw [dps]; rfl
  | x :: l, a => by rw [kN, aBZ]; exact aB1 l _
theorem aKq : ∀ (n : Nat) (x : aB), sz x <= n -> sz x <= 100000 -> kE n x = some (dp x) := by
  intro n
  induction n with
  | zero => intro x h; have := pV x; omega
  | succ n ih =>
    intro x h hb
    have hs := sM x
    have hkl := nZ x.Kids
    show oR (kE n) x = _
    unfold oR
    have hloop : aR (kD (kE n) x) ((0 : Int), (0 : Int)) = some (dps x.Kids 0) := by
      rw [<- aB1]
      refine lJ (body := kD (kE n) x) x.Kids (fun i (a : Int) => (a, (i : Int))) _ _ (fun _ _ => True) (fun i a k hx _ => ?_) (fun a _ => ?_) 0 trivial
      · have hm := sN (aOx hx)
        have hd := vQ _ k (aOv _)
        refine .inl ⟨_, rfl, ?_, trivial⟩
        unfold kD
        simp only [aX (aO hx), aNP, bV hx, aOp, ih k (by omega) (by omega), aJI]
        rw [bM (aO hx) (by unfold maxLen; omega)]
        unfold rowN
        cases (k.Kind == 5 || k.Kind == 6) with
        | true => rw [aNP, aNP, wrap_i64 (by omega) (by omega)]
        | false => rw [aNQ, aNQ, aON]
      · unfold kD
        simp only [bP, aNQ]
    rw [hloop, aOp, aIW]
    have hd := vQ _ x (aOv _)
    rw [aIW] at hd
    cases hk : x.Kind == 4 with
    | true =>
      rw [hk, aNP] at hd
      rw [aNP, aNP, wrap_i64 (by omega) (by omega)]
    | false => rw [aNQ, aNQ, aON]
theorem aDe {x : aB} (h : sz x <= 100000) : sF x = some (dp x) := aKq 1000000 x (by omega) h
def NotOk (x : aB) : Prop := (x.Kind == 4) = true -> x.Kids ≠ []
inductive xB : aB -> Prop
  | mk (x : aB) (h : NotOk x) (hk : ∀ k, k ∈ x.Kids -> xB k) : xB x
theorem xB.at_ {x : aB} (h : xB x) : NotOk x /\ ∀ k, k ∈ x.Kids -> xB k := by cases h with | mk _ h hk => exact ⟨h, hk⟩
theorem aDf (c : Int) (hc : 0 <= c) : ∀ (l : List aB) (a : Int), 0 <= a -> (∀ k, k ∈ l -> 0 <= dp k) -> dps l a + c = j8 (ρ := Int) (fun (a : Int) k => .inl (imax a (dp k + rowN k + c))) (fun a => a) l (a + c)
  | [], a, _, _ => by rw [dps]; rfl
  | x :: l, a, h0, hk => by
    rw [kN, aBZ]
    have h1 := hk x (aOt ..)
    have h2 := aEi x
    have hg := @aHf a (dp x + rowN x)
    rw [aDf c hc l _ (by omega) (fun k h => hk k (aOu _ h))]
    show j8 _ _ l _ = j8 _ _ l _
    congr 1
    unfold imax
    split <;> split <;> omega
theorem xC {α : Type} (o : Option α) : (o.bind fun x => some x) = o := by cases o <;> rfl
theorem aHg : ∀ (n : Nat) (x : aB), sz x <= n -> sz x <= 100000 -> xB x -> c4 n x = some (dp x) := by
  intro n
  induction n with
  | zero => intro x h; have := pV x; omega
  | succ n ih =>
    intro x h hb hna
    obtain ⟨hno, hka⟩ := hna.at_
    have hs := sM x
    have hkl := nZ x.Kids
    show gH (c4 n) x = _
    unfold gH
    rw [xC]
    have hbody : ∀ (c : Int), (bif x.Kind == 4 then (1 : Int) else 0) = c -> aR (dN (c4 n) x) ((0 : Int), (0 : Int)) = some (j8 (ρ := Int) (fun (a : Int) k => .inl (imax a (dp k + rowN k + c))) (fun a => a) x.Kids 0) := by
      intro c hc
      refine lJ (body := dN (c4 n) x) x.Kids (fun i (a : Int) => (a, (i : Int))) _ _ (fun _ _ => True) (fun i a k hx _ => ?_) (fun a _ => ?_) 0 trivial
      · have hmem := aOx hx
        have hm := sN hmem
        have hd := vQ _ k (aOv _)
        refine .inl ⟨_, rfl, ?_, trivial⟩
        unfold dN
        simp only [aX (aO hx), aNP, bV hx, aOp, ih k (by omega) (by omega) (hka k hmem), aB0]
        rw [bM (aO hx) (by unfold maxLen; omega)]
        unfold rowN
        have fin : ∀ (v : Int) (i1 : Int), (bif decide (v > a) then (some (.inl (v, i1)) : Option ((Int × Int) ⊕ Int)) else some (.inl (a, i1))) = some (.inl (imax a v, i1)) := fun v i1 => by
          unfold imax
          by_cases h : v > a
          · rw [decide_eq_true h, if_pos h]; rfl
          · rw [decide_eq_false h, if_neg h]; rfl
        subst hc
        cases (k.Kind == 5 || k.Kind == 6) with
        | true =>
          simp only [aNP]
          rw [wrap_i64 (n := dp k + 1) (by omega) (by omega), wrap_i64 (n := dp k + 1 + 1) (by omega) (by omega)]
          cases x.Kind == 4 with
          | true => simp only [aNP]; exact fin _ _
          | false => simp only [aNQ]; rw [aON]; exact fin _ _
        | false =>
          simp only [aNQ]
          rw [wrap_i64 (n := dp k + 1) (by omega) (by omega), aON]
          cases x.Kind == 4 with
          | true => simp only [aNP]; exact fin _ _
          | false => simp only [aNQ]; rw [aON]; exact fin _ _
      · unfold dN
        simp only [bP, aNQ]
    rw [hbody _ rfl, aIW]
    cases hk4 : x.Kind == 4 with
    | false =>
      rw [aNQ, aON, <- aB1]
      congr 2
      funext a k
      rw [aON]
    | true =>
      rw [aNP, aDf 1 (by omega) x.Kids 0 (by omega) (fun k hk => (vQ _ k (aOv _)).1)]
      have hne := hno hk4
      cases hkk : x.Kids with
      | nil => exact absurd hkk hne
      | cons k l =>
        rw [kN, kN]
        show some (j8 _ _ l _) = some (j8 _ _ l _)
        congr 2
        have h1 := (vQ _ k (aOv _)).1
        have h2 := aEi k
        unfold imax
        split <;> split <;> omega
theorem aE7 {x : aB} (h : sz x <= 100000) (hn : xB x) : jW x = some (dp x) := aHg 1000000 x (by omega) h hn
def iY (x : aB) : Bool := x.Kind == 1 || x.Kind == 2 || x.Kind == 3
def p6 (x : aB) : Bool := x.Sign == ([] : aA) && x.Kids.isEmpty && (bif x.Kind == 1 then x.Text == ([] : aA) && decide (x.N ≥ -1099511627776) && decide (x.N <= 1099511627776)
  else bif x.Kind == 2 then x.N == 0 && !(x.Text.contains 39) else x.N == 0 && decide (refN x.Text > 0) && (refN x.Text == (x.Text.length : Int)))
def aDg (x : aB) : Bool := bif x.Kind == 7 then fR x.Sign && Nat.beq x.Kids.length 2 && x.Kids.all iY
  else bif x.Kind == 4 then x.Sign == ([] : aA) && Nat.beq x.Kids.length 1
  else bif x.Kind == 5 || x.Kind == 6 then x.Sign == ([] : aA) && Nat.ble 2 x.Kids.length else false
mutual
def wl : aB -> Bool
  | ⟨k, n, t, s, kids⟩ => bif iY ⟨k, n, t, s, kids⟩ then p6 ⟨k, n, t, s, kids⟩ else n == 0 && (t == ([] : aA)) && wls kids && aDg ⟨k, n, t, s, kids⟩
def wls : List aB -> Bool
  | [] => true
  | x :: l => wl x && wls l
end
theorem aDh (x : aB) : wl x = bif iY x then p6 x else x.N == 0 && (x.Text == ([] : aA)) && wls x.Kids && aDg x := by cases x; rw [wl]
theorem uT : ∀ (l : List aB), wls l = l.all wl
  | [] => by rw [wls]; rfl
  | x :: l => by rw [wls, uT l]; rfl
theorem zE (x : aB) : lU x = some (iY x) := by
  unfold lU iY
  cases x.Kind == 1 <;> cases x.Kind == 2 <;> rfl
theorem aF4 (x : aB) : eZ x = some (iY x) := by
  unfold eZ iY
  congr 1
  by_cases h1 : x.Kind = 1
  · rw [h1]; rfl
  · by_cases h2 : x.Kind = 2
    · rw [h2]; rfl
    · by_cases h3 : x.Kind = 3
      · rw [h3]; rfl
      · have e1 : (x.Kind == 1) = false := by simpa using h1
        have e2 : (x.Kind == 2) = false := by simpa using h2
        have e3 : (x.Kind == 3) = false := by simpa using h3
        rw [e1, e2, e3]
        by_cases h : x.Kind ≥ 1
        · rw [decide_eq_true h, aNP, decide_eq_false (by omega)]; rfl
        · rw [decide_eq_false h]; rfl
theorem aHh {x : aB} (hx : KOk x) (hs : iY x = true) : sG x = some (p6 x) := by
  unfold sG p6
  have e0 : decide ((x.Kids.length : Int) > (0 : Int)) = !x.Kids.isEmpty := by
    cases x.Kids with
    | nil => rfl
    | cons => simp
  rw [e0]
  cases h1 : x.Sign == ([] : aA) with
  | false => rfl
  | true =>
    cases h2 : x.Kids.isEmpty with
    | false => rfl
    | true =>
      simp only [aOC, aNQ, aOI]
      cases h3 : x.Kind == 1 with
      | true =>
        simp only [aNP]
        cases x.Text == ([] : aA) <;> cases decide (x.N ≥ -1099511627776) <;> rfl
      | false =>
        simp only [aNQ]
        cases h4 : x.Kind == 2 with
        | true =>
          simp only [aNP]
          cases x.N == 0 with
          | false => rfl
          | true => rw [eU rfl, aCS, vL]; rfl
        | false =>
          simp only [aNQ]
          rw [show mB (aL.mk ([] : aA) ([] : aA) ([] : aA) ([] : aA) ([] : aA) ([] : aA)) x.Text = _ from tG aFZ hx.text, aOp, tH]
          cases x.N == 0 <;> cases decide (refN x.Text > 0) <;> rfl
theorem aB2 {l : List aB} {f : aB -> Option Bool} (p : aB -> Bool) (hf : ∀ k, k ∈ l -> f k = some (p k)) (hl : l.length <= maxLen) : aM l f = some (l.any p) := by
  unfold aM cX
  have hb : ∀ (j : Nat) (k : aB), l[j]? = some k -> aW l f (j : Int) = bif p k then some (.inr (j : Int)) else some (.inl ((j + 1 : Nat) : Int)) := fun j k hk => by
    unfold aW
    simp only [aX (aO hk), aNP, bV hk, aOp, hf k (aOx hk)]
    rw [bM (aO hk) hl]
  rcases qW p l with h | ⟨i, k, h1, h2, h3⟩
  · rw [any_none' h, mG l.length fun j hj => ?_, aS]
    · have : aW l f (l.length : Int) = some (.inr (-1 : Int)) := by
        unfold aW
        rw [bP]; rfl
      rw [this]; rfl
    · have hx := aOw hj
      rw [hb j _ hx, h j _ hx, aNQ]
  · rw [List.any_eq_true.2 ⟨k, aOx h1, h2⟩, mG i fun j hj => ?_, aS, hb i k h1, h2]
    · show some (decide ((i : Int) ≥ (0 : Int))) = _
      rw [decide_eq_true (by omega)]
    · have hj' : j < l.length := by have := aO h1; omega
      have hx := aOw hj'
      rw [hb j _ hx, h3 j _ hj hx, aNQ]
theorem aEj {α : Type} (l : List α) (n : Nat) : (((l.length : Nat) : Int) == (n : Int)) = Nat.beq l.length n := by
  rw [aOE, beq_iff_eq, Nat.beq_eq]; omega
theorem aKr {α : Type} (l : List α) : decide (((l.length : Nat) : Int) ≥ (2 : Int)) = Nat.ble 2 l.length := by
  rw [aOE, decide_eq_true_eq, Nat.ble_eq]; omega
theorem aKs {α : Type} (l : List α) : decide (((l.length : Nat) : Int) > (1 : Int)) = Nat.ble 2 l.length := by
  rw [aOE, decide_eq_true_eq, Nat.ble_eq]; omega
theorem aAD (s : aA) : bC sgns s = some (fR s) := by
  rw [sJ (by decide)]
  unfold hasS sgns fR
  simp only [List.any_cons, List.any_nil, Bool.or_false, Bool.or_assoc]
theorem aA8 {l : List aB} {x5 : Bool} {g : aB -> Option Bool} (hg : ∀ k, g k = some (iY k)) {β : Type} (fin : Bool -> Option β) :
    ((gidx (bif x5 then (((l.length : Nat) : Int) == (2 : Int)) else false) l (0 : Int)).bind fun x6 =>
        (f6 (bif x5 then (((l.length : Nat) : Int) == (2 : Int)) else false) (g x6)).bind fun x7 =>
        (gidx (bif (bif x5 then (((l.length : Nat) : Int) == (2 : Int)) else false) then x7 else false) l (1 : Int)).bind fun x8 =>
        (f6 (bif (bif x5 then (((l.length : Nat) : Int) == (2 : Int)) else false) then x7 else false) (g x8)).bind fun x9 =>
        fin (bif (bif (bif x5 then (((l.length : Nat) : Int) == (2 : Int)) else false) then x7 else false) then x9 else false)) = fin (x5 && Nat.beq l.length 2 && l.all iY) := by
  cases x5 with
  | false => rfl
  | true =>
    rw [aNP, show (((l.length : Nat) : Int) == (2 : Int)) = Nat.beq l.length 2 from aEj l 2, aOI]
    match l with
    | [] => rfl
    | [a] => rfl
    | [a, b] =>
      show (((some a).bind fun x6 => (f6 true (g x6)).bind fun x7 => _)) = _
      rw [aOp, eU rfl, hg, aOp]
      show _ = fin (iY a && (iY b && true))
      rw [Bool.and_true]
      cases iY a with
      | false => rfl
      | true =>
        show (((some b).bind fun x8 => (f6 true (g x8)).bind fun x9 => _)) = _
        rw [aOp, eU rfl, hg, aOp]; rfl
    | a :: b :: c :: t => rfl
theorem aHi : ∀ (n : Nat) (x : aB), sz x <= n -> KOk x -> lV n x = some (wl x) := by
  intro n
  induction n with
  | zero => intro x h; have := pV x; omega
  | succ n ih =>
    intro x h hk
    have hs := sM x
    show oS (lV n) x = _
    unfold oS
    rw [zE, aOp, aDh]
    cases hsim : iY x with
    | true => rw [aNP, aNP, aHh hk hsim]; rfl
    | false =>
      rw [aNQ, aNQ]
      have hany : aM x.Kids (fun x0 => m7 (lV n) x0) = some (x.Kids.any fun k => !wl k) := by
        refine aB2 _ (fun k hm => ?_) hk.at_.1
        have := sN hm
        unfold m7
        rw [ih k (by omega) (hk.at_.2 k hm)]; rfl
      have hnot : (x.Kids.any fun k => !wl k) = !wls x.Kids := by
        rw [uT, List.any_eq_not_all_not]; simp
      rw [show (x.N != (0 : Int)) = !(x.N == 0) from rfl]
      cases h1 : x.N == 0 with
      | false => rfl
      | true =>
        cases h2 : x.Text == ([] : aA) with
        | false => rfl
        | true =>
          simp only [aOC, aNQ, Bool.not_false, kQ, hany, aOp, hnot, aOI]
          cases h3 : wls x.Kids with
          | false => rfl
          | true =>
            simp only [aOC, aNQ, aOI]
            unfold aDg
            cases h7 : x.Kind == 7 with
            | true =>
              rw [aNP, aNP, show oI = some sgns from rfl, aOp, aAD, aOp]
              exact aA8 (fun k => zE k) some
            | false =>
              rw [aNQ, aNQ, aKr, show (((x.Kids.length : Nat) : Int) == (1 : Int)) = Nat.beq x.Kids.length 1 from aEj x.Kids 1]
              cases x.Kind == 4 with
              | true => cases x.Sign == ([] : aA) <;> rfl
              | false =>
                cases x.Kind == 5 with
                | true => cases x.Sign == ([] : aA) <;> rfl
                | false =>
                  cases x.Kind == 6 with
                  | true => cases x.Sign == ([] : aA) <;> rfl
                  | false => rfl
theorem aHj {s : aA} (hs : s.length <= maxLen) : gJ s = some (!(s.contains 39)) := by
  unfold gJ
  refine (aBJ (l := s) hs (body := dW s) (fun b => b == 39) false true (fun i x hx => ?_) ?_).trans ?_
  · unfold dW
    simp only [aX (aO hx), aNP, bV hx, aOp, show ((x.toNat : Int) == (39 : Int)) = (x == 39) from eV x 39]
    rw [bM (aO hx) hs]
    cases x == 39 <;> rfl
  · unfold dW
    simp only [bP, aNQ]
  · have : s.any (fun b => b == 39) = s.contains 39 := by
      rw [List.contains_eq_any_beq]; congr 1; funext b; exact Bool.beq_comm
    rw [this]; cases s.contains 39 <;> rfl
theorem aIX : ∀ (n : Nat) (x : aB), sz x <= n -> KOk x -> c5 n x = some (wl x) := by
  intro n
  induction n with
  | zero => intro x h; have := pV x; omega
  | succ n ih =>
    intro x h hk
    have hs := sM x
    have e0 : (((x.Kids.length : Nat) : Int) == (0 : Int)) = x.Kids.isEmpty := by
      cases x.Kids with
      | nil => rfl
      | cons => simp; omega
    show gK (c5 n) x = _
    unfold gK
    rw [aDh]
    unfold iY p6
    rw [e0, show (x.N != (0 : Int)) = !(x.N == 0) from rfl]
    cases h1 : x.Kind == 1 with
    | true =>
      simp only [aNP, Bool.true_or]
      cases x.Kids.isEmpty <;> cases x.Text == ([] : aA) <;> cases x.Sign == ([] : aA) <;> cases decide (x.N <= 1099511627776) <;> cases decide (x.N ≥ -1099511627776) <;> rfl
    | false =>
      simp only [aNQ, Bool.false_or]
      cases h2 : x.Kind == 2 with
      | true =>
        simp only [aNP, Bool.true_or]
        cases x.N == 0 with
        | false => cases x.Sign == ([] : aA) <;> cases x.Kids.isEmpty <;> rfl
        | true =>
          cases x.Kids.isEmpty with
          | false => cases x.Sign == ([] : aA) <;> rfl
          | true =>
            cases x.Sign == ([] : aA) with
            | false => rfl
            | true =>
              simp only [aOC, aNQ, aNP, kQ, aHj hk.text]; rfl
      | false =>
        simp only [aNQ, Bool.false_or]
        cases h3 : x.Kind == 3 with
        | true =>
          simp only [aNP]
          cases x.N == 0 with
          | false => cases x.Sign == ([] : aA) <;> cases x.Kids.isEmpty <;> rfl
          | true =>
            rw [show cN (aL.mk ([] : aA) ([] : aA) ([] : aA) ([] : aA) ([] : aA) ([] : aA)) x.Text = _ from uS aFZ hk.text]
            simp only [aOC, aNQ, aOp, tH]
            cases x.Kids.isEmpty <;> cases x.Sign == ([] : aA) <;> cases decide (refN x.Text > 0) <;> cases refN x.Text == (x.Text.length : Int) <;> rfl
        | false =>
          simp only [aNQ]
          cases hN : x.N == 0 with
          | false => rfl
          | true =>
            simp only [aOC, aNQ, aOI]
            have hb : ∀ (j : Nat) (k : aB), x.Kids[j]? = some k -> dP (c5 n) x (j : Int) = bif wl k then some (.inl ((j + 1 : Nat) : Int)) else some (.inr false) := fun j k hkk => by
              have hm := aOx hkk
              have := sN hm
              unfold dP
              simp only [aX (aO hkk), aNP, bV hkk, aOp, ih k (by omega) (hk.at_.2 k hm)]
              rw [bM (aO hkk) hk.at_.1]
              cases wl k <;> rfl
            rcases qW (fun k => !wl k) x.Kids with ha | ⟨i, k, q1, q2, q3⟩
            · have hall : wls x.Kids = true := by
                rw [uT, List.all_eq_true]
                intro k hkm
                obtain ⟨j, hj⟩ := List.getElem?_of_mem hkm
                have := ha j k hj
                simpa using this
              rw [mG x.Kids.length fun j hj => ?_, aS, hall, Bool.and_true]
              · have : dP (c5 n) x (x.Kids.length : Int) = some (.inr ((x.Text == ([] : aA)) && aDg x)) := by
                  unfold dP
                  simp only [bP, aNQ]
                  cases x.Text == ([] : aA) with
                  | false => rfl
                  | true =>
                    simp only [aOC, aNQ, aOI]
                    unfold aDg
                    cases h7 : x.Kind == 7 with
                    | true =>
                      rw [aNP, aNP, aC9, aOp]
                      exact aA8 (fun k => aF4 k) (fun b => (some (Sum.inr b) : Option (Int ⊕ Bool)))
                    | false =>
                      rw [aNQ, aNQ, aKs, show (((x.Kids.length : Nat) : Int) == (1 : Int)) = Nat.beq x.Kids.length 1 from aEj x.Kids 1, aB0]
                      cases h4 : x.Kind == 4 with
                      | true =>
                        have h5 : (x.Kind == 5) = false := by rw [eq_of_beq h4]; rfl
                        have h6 : (x.Kind == 6) = false := by rw [eq_of_beq h4]; rfl
                        rw [h5, h6]
                        cases x.Sign == ([] : aA) <;> cases Nat.beq x.Kids.length 1 <;> rfl
                      | false =>
                        cases x.Kind == 5 <;> cases x.Kind == 6 <;> cases x.Sign == ([] : aA) <;> rfl
                rw [this]
              · have hx := aOw hj
                have := ha j _ hx
                rw [hb j _ hx]
                rw [Bool.not_eq_false'] at this
                rw [this, aNP]
            · have hall : wls x.Kids = false := by
                rw [uT, List.all_eq_false]
                exact ⟨k, aOx q1, by simpa using q2⟩
              rw [mG i fun j hj => ?_, aS, hb i k q1, hall]
              · rw [Bool.not_eq_true'] at q2
                rw [q2]
                cases x.Text == ([] : aA) <;> rfl
              · have hj' : j < x.Kids.length := by have := aO q1; omega
                have hx := aOw hj'
                have := q3 j _ hj hx
                rw [Bool.not_eq_false'] at this
                rw [hb j _ hx, this, aNP]
def opn (w : aA) : Int := (if w = [40] then 1 else 0) - (if w = [41] then 1 else 0)
def nN (by_ : aA) : Int -> List aA -> List aA -> List (List aA)
  | _, cur, [] => [cur]
  | o, cur, w :: l => if o + opn w = 0 /\ w = by_ then cur :: nN by_ (o + opn w) [] l else nN by_ (o + opn w) (cur ++ [w]) l
def lF : Int -> List aA -> Bool
  | _, [] => false
  | o, w :: l => if o + opn w = 0 then l.isEmpty else lF (o + opn w) l
def gM (wh : List aA -> aB) : Nat -> List aA -> aB
  | 0, _ => fQ
  | _ + 1, [] => fQ
  | m + 1, w :: l => if w = [33] then (if (gM wh m l).Kind = 0 then fQ else aB.mk 4 0 [] [] [gM wh m l])
    else if w = [40] then (if 2 < l.length + 1 /\ lF 0 (w :: l) = true then wh (l.take (l.length - 1)) else fQ)
    else match l with
      | [] => dR w
      | [g, w2] => if fR g = true then (if (dR w).Kind = 0 ∨ (dR w2).Kind = 0 then fQ else aB.mk 7 0 [] g [dR w, dR w2]) else fQ
      | _ => fQ
def rowX (by_ : aA) (f : List aA -> aB) (kind : Int) (l : List aA) : aB :=
  if (nN by_ 0 [] l).any (fun p => (f p).Kind == 0) = true then fQ else aBY kind (((nN by_ 0 [] l).map f).headD fQ) (((nN by_ 0 [] l).map f).drop 1)
def gB : Nat -> List aA -> aB
  | 0 => fun _ => fQ
  | n + 1 => fun l => rowX [124] (fun p => rowX [38] (gM (gB n) (n + 1)) 5 p) 6 l
def aF5 (by_ : aA) : List (List aA) -> List aA
  | [] => []
  | [p] => p
  | p :: q :: ps => p ++ by_ :: aF5 by_ (q :: ps)
theorem qY (by_ : aA) : ∀ (l : List aA) (o : Int) (cur : List aA), ∃ p ps, nN by_ o cur l = p :: ps
  | [], o, cur => ⟨cur, [], rfl⟩
  | w :: l, o, cur => by
    rw [nN]
    split
    · exact ⟨_, _, rfl⟩
    · exact qY by_ l _ _
theorem wQ (by_ : aA) : ∀ (l : List aA) (o : Int) (cur : List aA), aF5 by_ (nN by_ o cur l) = cur ++ l
  | [], o, cur => by rw [nN]; simp [aF5]
  | w :: l, o, cur => by
    rw [nN]
    split
    · rename_i h
      obtain ⟨p, ps, hp⟩ := qY by_ l (o + opn w) []
      have := wQ by_ l (o + opn w) []
      rw [hp] at this ⊢
      rw [aF5, this, h.2]; rfl
    · rw [wQ by_ l _ _]; simp
def pM : Int -> List aA -> Prop
  | o, [] => o = 0
  | o, w :: l => 0 <= o + opn w /\ pM (o + opn w) l
def qZ (by_ : aA) : Int -> List aA -> Prop
  | _, [] => True
  | o, w :: l => ¬ (o + opn w = 0 /\ w = by_) /\ qZ by_ (o + opn w) l
theorem zF {by_ : aA} : ∀ (u r : List aA) (o : Int) (cur : List aA), pM o u -> qZ by_ o u -> nN by_ o cur (u ++ r) = nN by_ 0 (cur ++ u) r
  | [], r, o, cur, ho, _ => by rw [show o = 0 from ho]; simp
  | w :: u, r, o, cur, ho, hn => by
    rw [aOD, nN, if_neg hn.1, zF u r _ _ ho.2 hn.2]; simp
theorem zG : ∀ (u v : List aA) (o : Int), pM o u -> pM 0 v -> pM o (u ++ v)
  | [], v, o, h, hv => by rw [show o = 0 from h]; exact hv
  | w :: u, v, o, h, hv => ⟨h.1, zG u v _ h.2 hv⟩
theorem zH {by_ : aA} : ∀ (u v : List aA) (o : Int), pM o u -> qZ by_ o u -> qZ by_ 0 v -> qZ by_ o (u ++ v)
  | [], v, o, h, _, hv => by rw [show o = 0 from h]; exact hv
  | w :: u, v, o, h, hn, hv => ⟨hn.1, zH u v _ h.2 hn.2 hv⟩
theorem aE8 : ∀ (u r : List aA) (o : Int), pM o u -> 0 <= o -> ∀ c : Int, 1 <= c -> (∀ by_ : aA, qZ by_ 0 r -> pM 0 r -> True) -> pM c r -> pM (o + c) (u ++ r)
  | [], r, o, h, _, c, _, _, hr => by rw [show o = 0 from h, Int.zero_add]; exact hr
  | w :: u, r, o, h, h0, c, hc, _, hr => by
    refine ⟨?_, ?_⟩
    · have := h.1; omega
    · rw [show o + c + opn w = (o + opn w) + c by omega]
      exact aE8 u r _ h.2 h.1 c hc (fun _ _ _ => trivial) hr
theorem aE9 {by_ : aA} : ∀ (u r : List aA) (o : Int), pM o u -> 0 <= o -> ∀ c : Int, 1 <= c -> qZ by_ c r -> qZ by_ (o + c) (u ++ r)
  | [], r, o, h, _, c, _, hr => by rw [show o = 0 from h, Int.zero_add]; exact hr
  | w :: u, r, o, h, h0, c, hc, hr => by
    refine ⟨fun hh => ?_, ?_⟩
    · have := h.1; omega
    · rw [show o + c + opn w = (o + opn w) + c by omega]
      exact aE9 u r _ h.2 h.1 c hc hr
theorem aDi : ∀ (u : List aA) (o : Int), pM o u -> 0 <= o -> lF (o + 1) (u ++ [[41]]) = true
  | [], o, h, _ => by
    rw [show o = 0 from h]; rfl
  | w :: u, o, h, h0 => by
    rw [aOD, lF, if_neg (by have := h.1; omega), show o + 1 + opn w = (o + opn w) + 1 by omega]
    exact aDi u _ h.2 h.1
theorem aHk : opn [40] = 1 := rfl
theorem opn41 : opn [41] = -1 := rfl
theorem zI {w : aA} (h1 : w ≠ [40]) (h2 : w ≠ [41]) : opn w = 0 := by unfold opn; rw [if_neg h1, if_neg h2]; rfl
theorem aB3 {mid : List aA} (h : pM 0 mid) (hne : mid ≠ []) : pM 0 ([40] :: (mid ++ [[41]])) /\ (∀ by_, by_ ≠ [40] -> by_ ≠ [41] -> qZ by_ 0 ([40] :: (mid ++ [[41]]))) /\ lF 0 ([40] :: (mid ++ [[41]])) = true := by
  refine ⟨⟨by rw [aHk]; omega, ?_⟩, fun by_ h1 h2 => ⟨fun hh => h1 hh.2.symm, ?_⟩, ?_⟩
  · rw [aHk]
    exact aE8 mid [[41]] 0 h (Int.le_refl _) 1 (Int.le_refl _) (fun _ _ _ => trivial) ⟨by rw [opn41]; omega, by rw [opn41]; rfl⟩
  · rw [aHk]
    exact aE9 mid [[41]] 0 h (Int.le_refl _) 1 (Int.le_refl _) ⟨fun hh => h2 hh.2.symm, trivial⟩
  · rw [lF, aHk, if_neg (by omega)]
    exact aDi mid 0 h (Int.le_refl _)
theorem zJ : ∀ (l : List aA) (o : Int), 1 <= o -> lF o l = true -> ∃ m, l = m ++ [[41]]
  | [], o, _, h => by cases h
  | w :: l, o, ho, h => by
    rw [lF] at h
    split at h
    · rename_i h0
      have : w = [41] := by
        unfold opn at h0
        by_cases h41 : w = [41]
        · exact h41
        · rw [if_neg h41] at h0
          split at h0 <;> omega
      cases l with
      | nil => exact ⟨[], by rw [this]; rfl⟩
      | cons _ _ => cases h
    · rename_i h0
      have h1 : 1 <= o + opn w := by
        unfold opn at h0 ⊢
        by_cases h41 : w = [41]
        · subst h41
          rw [if_neg (by decide), if_pos rfl] at h0 ⊢
          omega
        · rw [if_neg h41] at h0 ⊢
          split at h0 <;> split <;> omega
      obtain ⟨m, rfl⟩ := zJ l _ h1 h
      exact ⟨w :: m, rfl⟩
theorem aF6 (w : aA) : (dR w).Kind = 0 -> dR w = fQ := by
  unfold dR
  cases w.head? == some 39 with
  | true => intro h; exact absurd (show (2 : Int) = 0 from h) (by decide)
  | false =>
    cases decide (refN w > 0) with
    | true => intro h; exact absurd (show (3 : Int) = 0 from h) (by decide)
    | false =>
      cases (sgn w).2 == 0 with
      | true => intro h; exact absurd (show (1 : Int) = 0 from h) (by decide)
      | false => intro _; rfl
theorem leaf33 : dR [33] = fQ := sK rfl rfl rfl rfl
theorem leaf40 : dR [40] = fQ := sK rfl rfl rfl rfl
theorem leaf41 : dR [41] = fQ := sK rfl rfl rfl rfl
theorem leaf38 : dR [38] = fQ := sK rfl rfl rfl rfl
theorem aKt : dR [124] = fQ := sK rfl rfl rfl rfl
theorem kG (wh : List aA -> aB) (m : Nat) (w : aA) (l : List aA) : gM wh (m + 1) (w :: l) = if w = [33] then (if (gM wh m l).Kind = 0 then fQ else aB.mk 4 0 [] [] [gM wh m l])
    else if w = [40] then (if 2 < l.length + 1 /\ lF 0 (w :: l) = true then wh (l.take (l.length - 1)) else fQ)
    else match l with
      | [] => dR w
      | [g, w2] => if fR g = true then (if (dR w).Kind = 0 ∨ (dR w2).Kind = 0 then fQ else aB.mk 7 0 [] g [dR w, dR w2]) else fQ
      | _ => fQ := by rw [gM.eq_def]
/-- A piece, read by the document's as this. -/
structure Snd (f : List aA -> aB) (l : List aA) (x : aB) (r : List aA) (tops : List aA) (u : List aA) : Prop where
  eq : l = u ++ r
  val : f u = x
  kind : x.Kind ≠ 0
  ok : pM 0 u
  top : ∀ b, b ∈ tops -> qZ b 0 u
  ne : u ≠ []
theorem aFa {w : aA} (h : (dR w).Kind ≠ 0) : w ≠ [33] /\ w ≠ [40] /\ w ≠ [41] /\ w ≠ [38] /\ w ≠ [124] := by
  refine ⟨?_, ?_, ?_, ?_, ?_⟩ <;> intro he <;> subst he <;> refine h ?_
  · rw [leaf33]; rfl
  · rw [leaf40]; rfl
  · rw [leaf41]; rfl
  · rw [leaf38]; rfl
  · rw [aKt]; rfl
theorem aIY {g : aA} (h : fR g = true) : g ≠ [40] /\ g ≠ [41] /\ g ≠ [38] /\ g ≠ [124] := by
  refine ⟨?_, ?_, ?_, ?_⟩ <;> intro he <;> subst he <;> exact absurd h (by decide)
theorem tJ {w : aA} (h1 : w ≠ [40]) (h2 : w ≠ [41]) {l : List aA} (hl : pM 0 l) : pM 0 (w :: l) := by
  refine ⟨?_, ?_⟩ <;> rw [zI h1 h2]
  · exact Int.le_refl _
  · exact hl
theorem mK {w b : aA} (h1 : w ≠ [40]) (h2 : w ≠ [41]) (hb : w ≠ b) {l : List aA} (hl : qZ b 0 l) : qZ b 0 (w :: l) := by
  refine ⟨fun hh => hb hh.2, ?_⟩
  rw [zI h1 h2]; exact hl
theorem aKu {any : List aA -> Res} {wh : List aA -> aB} (hany : ∀ l x r, any l = some (x, r) -> ∃ u, Snd wh l x r [] u) :
    ∀ (m : Nat) (l : List aA) (x : aB) (r : List aA), pOne any m l = some (x, r) -> ∃ u, Snd (fun u => gM wh (u.length + 1) u) l x r [[124], [38]] u /\ ∀ M, u.length < M -> gM wh M u = x := by
  intro m
  induction m with
  | zero => intro l x r h; cases h
  | succ m ih =>
    intro l x r h
    cases l with
    | nil => cases h
    | cons w l =>
    rw [mI] at h
    by_cases h33 : w = [33]
    · rw [if_pos h33] at h
      cases hp : pOne any m l with
      | none => rw [hp] at h; cases h
      | some p =>
        rw [hp] at h
        obtain ⟨y, r'⟩ := p
        cases h
        obtain ⟨u, hu, huM⟩ := ih l y r' hp
        have hM : ∀ M, (w :: u).length < M -> gM wh M (w :: u) = aB.mk 4 0 [] [] [y] := fun M hM => by
          obtain ⟨M, rfl⟩ : ∃ M', M = M' + 1 := ⟨M - 1, by omega⟩
          rw [aOq] at hM
          rw [kG, if_pos h33, huM M (by omega), if_neg hu.kind]
        refine ⟨w :: u, ⟨by rw [hu.eq]; rfl, hM _ (by omega), (show (4 : Int) ≠ 0 by decide), tJ (by rw [h33]; decide) (by rw [h33]; decide) hu.ok, fun b hb => mK (by rw [h33]; decide) (by rw [h33]; decide) ?_ (hu.top b hb), by simp⟩, hM⟩
        rw [h33]
        intro he
        subst he
        exact absurd hb (by decide)
    · rw [if_neg h33] at h
      by_cases h40 : w = [40]
      · rw [if_pos h40] at h
        cases hp : any l with
        | none => rw [hp] at h; cases h
        | some p =>
          rw [hp] at h
          obtain ⟨y, r'⟩ := p
          cases r' with
          | nil => cases h
          | cons c r' =>
            dsimp only at h
            by_cases hc : c = [41]
            · rw [if_pos hc] at h
              cases h
              obtain ⟨mid, hm⟩ := hany l x (c :: r) hp
              obtain ⟨b1, b2, b3⟩ := aB3 hm.ok hm.ne
              have hml : 1 <= mid.length := by
                cases mid with
                | nil => exact absurd rfl hm.ne
                | cons => simp
              have hM : ∀ M, (w :: (mid ++ [[41]])).length < M -> gM wh M (w :: (mid ++ [[41]])) = x := fun M hM => by
                obtain ⟨M, rfl⟩ : ∃ M', M = M' + 1 := ⟨M - 1, by omega⟩
                rw [kG, if_neg h33, if_pos h40, h40, if_pos ⟨by simp; omega, b3⟩]
                rw [aOr, aOs, Nat.add_sub_cancel, List.take_left' rfl]
                exact hm.val
              refine ⟨w :: (mid ++ [[41]]), ⟨by rw [hm.eq, hc]; simp, hM _ (by omega), hm.kind, by rw [h40]; exact b1, fun b hb => ?_, by simp⟩, hM⟩
              rw [h40]
              refine b2 b ?_ ?_ <;> intro he <;> subst he <;> exact absurd hb (by decide)
            · rw [if_neg hc] at h; cases h
      · rw [if_neg h40] at h
        by_cases hk : (dR w).Kind = 0
        · rw [if_pos hk] at h; cases h
        · rw [if_neg hk] at h
          have ht := aFa hk
          have solo : ∀ M, ([w] : List aA).length < M -> gM wh M [w] = dR w := fun M hM => by
            obtain ⟨M, rfl⟩ : ∃ M', M = M' + 1 := ⟨M - 1, by omega⟩
            rw [kG, if_neg h33, if_neg h40]
          have soloS : ∀ (r : List aA), Snd (fun u => gM wh (u.length + 1) u) (w :: r) (dR w) r [[124], [38]] [w] := fun r =>
            ⟨rfl, solo _ (by simp), hk, tJ ht.2.1 ht.2.2.1 rfl, fun b hb => mK ht.2.1 ht.2.2.1 (by
              intro he
              subst he
              simp only [List.mem_cons, List.mem_nil_iff, or_false] at hb
              rcases hb with hb | hb
              · exact ht.2.2.2.2 hb
              · exact ht.2.2.2.1 hb) trivial, by simp⟩
          cases l with
          | nil => cases h; exact ⟨[w], soloS [], solo⟩
          | cons g l2 =>
            dsimp only at h
            by_cases hg : fR g = true
            · rw [if_pos hg] at h
              cases l2 with
              | nil => cases h
              | cons w2 r2 =>
                dsimp only at h
                by_cases hk2 : (dR w2).Kind = 0
                · rw [if_pos hk2] at h; cases h
                · rw [if_neg hk2] at h
                  cases h
                  have ht2 := aFa hk2
                  have hgt := aIY hg
                  have hM : ∀ M, ([w, g, w2] : List aA).length < M -> gM wh M [w, g, w2] = aB.mk 7 0 [] g [dR w, dR w2] := fun M hM => by
                    obtain ⟨M, rfl⟩ : ∃ M', M = M' + 1 := ⟨M - 1, by omega⟩
                    rw [kG, if_neg h33, if_neg h40]
                    dsimp only
                    rw [if_pos hg, if_neg (fun hh => hh.elim hk hk2)]
                  refine ⟨[w, g, w2], ⟨rfl, hM _ (by simp), (show (7 : Int) ≠ 0 by decide), tJ ht.2.1 ht.2.2.1 (tJ hgt.1 hgt.2.1 (tJ ht2.2.1 ht2.2.2.1 rfl)), fun b hb => ?_, by simp⟩, hM⟩
                  simp only [List.mem_cons, List.mem_nil_iff, or_false] at hb
                  rcases hb with hb | hb <;> subst hb
                  · exact mK ht.2.1 ht.2.2.1 ht.2.2.2.2 (mK hgt.1 hgt.2.1 hgt.2.2.2 (mK ht2.2.1 ht2.2.2.1 ht2.2.2.2.2 trivial))
                  · exact mK ht.2.1 ht.2.2.1 ht.2.2.2.1 (mK hgt.1 hgt.2.1 hgt.2.2.1 (mK ht2.2.1 ht2.2.2.1 ht2.2.2.2.1 trivial))
            · rw [if_neg hg] at h
              cases h
              exact ⟨[w], soloS _, solo⟩
def glue (by_ : aA) (us : List (List aA)) : List aA := us.flatMap fun u => by_ :: u
theorem mL (by_ : aA) (u : List aA) (us : List (List aA)) : glue by_ (u :: us) = by_ :: (u ++ glue by_ us) := by unfold glue; rw [List.flatMap_cons]; rfl
theorem aB4 (by_ : aA) : glue by_ [] = [] := rfl
theorem aA9 (by_ : aA) : ∀ (p : List aA) (ps : List (List aA)), aF5 by_ (p :: ps) = p ++ glue by_ ps
  | p, [] => by rw [aB4, aOH]; rfl
  | p, q :: ps => by rw [aF5, aA9 by_ q ps, mL]
theorem aBa {by_ : aA} (h1 : by_ ≠ [40]) (h2 : by_ ≠ [41]) : ∀ (us : List (List aA)) (u cur : List aA), pM 0 u -> qZ by_ 0 u -> (∀ v, v ∈ us -> pM 0 v /\ qZ by_ 0 v) -> nN by_ 0 cur (u ++ glue by_ us) = (cur ++ u) :: us
  | [], u, cur, hu, hn, _ => by
    rw [zF u _ 0 cur hu hn, aB4]; rfl
  | v :: us, u, cur, hu, hn, hv => by
    have h3 := hv v (aOt ..)
    rw [zF u _ 0 cur hu hn, mL, nN, zI h1 h2, if_pos ⟨rfl, rfl⟩, Int.zero_add, aBa h1 h2 us v [] h3.1 h3.2 fun w hw => hv w (aOu _ hw)]
    rfl
section
variable {one : List aA -> Res} {f : List aA -> aB} {by_ : aA} (h1 : by_ ≠ [40]) (h2 : by_ ≠ [41]) {tops : List aA} {n : Nat}
  (hone : ∀ l x r, l.length <= n -> one l = some (x, r) -> ∃ u, Snd f l x r (by_ :: tops) u)
include h1 h2 hone
omit h1 h2 in
theorem aIZ : ∀ (m : Nat) (l : List aA) (xs : List aB) (r : List aA), l.length <= n -> uB one by_ m l = some (xs, r) -> ∃ us, l = glue by_ us ++ r /\ us.map f = xs /\ (∀ x, x ∈ xs -> x.Kind ≠ 0) /\ ∀ v, v ∈ us -> pM 0 v /\ qZ by_ 0 v /\ ∀ b, b ∈ tops -> qZ b 0 v := by
  intro m
  induction m with
  | zero => intro l xs r _ h; cases h
  | succ m ih =>
    intro l xs r hl h
    cases l with
    | nil => cases h; exact ⟨[], rfl, rfl, fun x hx => (by cases hx), fun v hv => by cases hv⟩
    | cons w l =>
      rw [uB] at h
      by_cases hw : w = by_
      · rw [if_pos hw] at h
        cases hp : one l with
        | none => rw [hp] at h; cases h
        | some p =>
          obtain ⟨x, r1⟩ := p
          rw [hp] at h
          dsimp only at h
          cases hq : uB one by_ m r1 with
          | none => rw [hq] at h; cases h
          | some q =>
            obtain ⟨ys, r2⟩ := q
            rw [hq] at h
            cases h
            rw [aOq] at hl
            obtain ⟨u, hu⟩ := hone l x r1 (by omega) hp
            have hr1 : r1.length <= n := by have := congrArg List.length hu.eq; rw [aOr] at this; omega
            obtain ⟨us, g1, g2, g3, g4⟩ := ih r1 ys r2 hr1 hq
            refine ⟨u :: us, ?_, ?_, ?_, ?_⟩
            · rw [mL, hw, hu.eq, g1]; simp
            · rw [aOJ, hu.val, g2]
            · intro y hy
              rcases List.mem_cons.1 hy with rfl | hy
              · exact hu.kind
              · exact g3 y hy
            · intro v hv
              rcases List.mem_cons.1 hv with rfl | hv
              · exact ⟨hu.ok, hu.top _ (aOt ..), fun b hb => hu.top b (aOu _ hb)⟩
              · exact g4 v hv
      · rw [if_neg hw] at h
        cases h
        exact ⟨[], rfl, rfl, fun x hx => (by cases hx), fun v hv => by cases hv⟩
omit hone in
theorem aHl : ∀ (us : List (List aA)), (∀ v, v ∈ us -> pM 0 v /\ qZ by_ 0 v /\ ∀ b, b ∈ tops -> qZ b 0 v) -> pM 0 (glue by_ us) /\ ∀ b, b ∈ tops -> by_ ≠ b -> qZ b 0 (glue by_ us)
  | [], _ => ⟨rfl, fun _ _ _ => trivial⟩
  | u :: us, h => by
    obtain ⟨g1, g2⟩ := aHl us fun v hv => h v (aOu _ hv)
    obtain ⟨k1, k2, k3⟩ := h u (aOt ..)
    rw [mL]
    exact ⟨tJ h1 h2 (zG _ _ _ k1 g1), fun b hb hne => mK h1 h2 hne (zH _ _ _ k1 (k3 b hb) (g2 b hb hne))⟩
omit h1 h2 hone in
theorem aBb {kind : Int} (hk : kind ≠ 0) {x : aB} (hx : x.Kind ≠ 0) (xs : List aB) : (aBY kind x xs).Kind ≠ 0 := by
  unfold aBY
  cases xs.isEmpty with
  | true => exact hx
  | false => exact hk
theorem aHm {kind : Int} (hk : kind ≠ 0) (hbt : ∀ b, b ∈ tops -> by_ ≠ b) (m : Nat) (l : List aA) (x : aB) (r : List aA) (hl : l.length <= n) (h : pRow one kind by_ m l = some (x, r)) : ∃ u, Snd (rowX by_ f kind) l x r tops u := by
  unfold pRow at h
  cases hp : one l with
  | none => rw [hp] at h; cases h
  | some p =>
    obtain ⟨x0, r1⟩ := p
    rw [hp] at h
    dsimp only at h
    cases hq : uB one by_ m r1 with
    | none => rw [hq] at h; cases h
    | some q =>
      obtain ⟨ys, r2⟩ := q
      rw [hq] at h
      cases h
      obtain ⟨u, hu⟩ := hone l x0 r1 hl hp
      have hr1 : r1.length <= n := by have := congrArg List.length hu.eq; rw [aOr] at this; omega
      obtain ⟨us, g1, g2, g3, g4⟩ := aIZ hone m r1 ys r hr1 hq
      obtain ⟨k1, k2⟩ := aHl h1 h2 us g4
      have hparts : nN by_ 0 [] (u ++ glue by_ us) = u :: us := aBa h1 h2 us u [] hu.ok (hu.top _ (aOt ..)) fun v hv => ⟨(g4 v hv).1, (g4 v hv).2.1⟩
      refine ⟨u ++ glue by_ us, by rw [hu.eq, g1]; simp, ?_, aBb hk hu.kind ys, zG _ _ _ hu.ok k1, fun b hb => zH _ _ _ hu.ok (hu.top b (aOu _ hb)) (k2 b hb (hbt b hb)), ?_⟩
      · unfold rowX
        rw [hparts, if_neg ?_]
        · rw [aOJ, List.headD_cons, aOP, aOG, hu.val, g2]
        · rw [aOO, aOQ]
          intro p hp'
          rcases List.mem_cons.1 hp' with rfl | hp'
          · rw [hu.val]; simpa using hu.kind
          · have := g3 (f p) (by rw [<- g2]; exact List.mem_map_of_mem hp')
            simpa using this
      · intro he
        exact hu.ne (List.append_eq_nil_iff.1 he).1
end
theorem aKv : ∀ (n : Nat) (l : List aA) (x : aB) (r : List aA) (m : Nat), l.length <= n -> pAny m l = some (x, r) -> ∃ u, Snd (gB (n + 1)) l x r [] u := by
  intro n
  induction n using Nat.strongRecOn with
  | _ n ih =>
  intro l x r m hl h
  cases m with
  | zero => cases h
  | succ m =>
  refine aHm (by decide) (by decide) (tops := []) (n := n) (f := fun p => rowX [38] (gM (gB n) (n + 1)) 5 p) (fun l2 x2 r2 hl2 h2 => ?_) (by decide) (fun b hb => by cases hb) (m + 1) l x r hl h
  refine aHm (by decide) (by decide) (tops := [[124]]) (n := n) (f := gM (gB n) (n + 1)) (fun l3 x3 r3 hl3 h3 => ?_) (by decide) (fun b hb => by rw [List.mem_singleton.1 hb]; decide) (m + 1) l2 x2 r2 hl2 h2
  -- a piece: what is in its aB3 is shorter
  have key : ∀ (k : Nat) (l : List aA) (x : aB) (r : List aA), l.length <= n -> pOne (pAny m) k l = some (x, r) -> ∃ u, Snd (gM (gB n) (n + 1)) l x r [[124], [38]] u := by
    intro k
    intro l x r hl h
    obtain ⟨u, hu, huM⟩ := aKu (any := fun l' => if l'.length < n then pAny m l' else none) (wh := gB n) (fun l' x' r' h' => by
      by_cases hln : l'.length < n
      · rw [if_pos hln] at h'
        obtain ⟨n', rfl⟩ : ∃ n', n = n' + 1 := ⟨n - 1, by omega⟩
        exact ih n' (by omega) l' x' r' m (by omega) h'
      · rw [if_neg hln] at h'; cases h') k l x r (by
        -- the same, as it looks at shorter rows only
        have same : ∀ (k : Nat) (l : List aA), l.length <= n -> pOne (fun l' => if l'.length < n then pAny m l' else none) k l = pOne (pAny m) k l := by
          intro k
          induction k with
          | zero => intro l _; rfl
          | succ k ihk =>
            intro l hl
            cases l with
            | nil => rfl
            | cons w l =>
              rw [aOq] at hl
              rw [mI, mI, ihk l (by omega), if_pos (show l.length < n by omega)]
        rw [same k l hl]; exact h)
    have hul : u.length <= n := by have := congrArg List.length hu.eq; rw [aOr] at this; omega
    exact ⟨u, hu.eq, huM (n + 1) (by omega), hu.kind, hu.ok, hu.top, hu.ne⟩
  obtain ⟨u, hu⟩ := key (m + 1) l3 x3 r3 hl3 h3
  exact ⟨u, hu.eq, hu.val, hu.kind, hu.ok, fun b hb => hu.top b (by
    simp only [List.mem_cons, List.mem_nil_iff, or_false] at hb ⊢
    exact hb.symm), hu.ne⟩
def Fol (r : List aA) : Prop := r = [] ∨ ∃ w t, r = w :: t /\ (w = [38] ∨ w = [124] ∨ w = [41])
theorem Fol.nosign {w : aA} (h : w = [38] ∨ w = [124] ∨ w = [41]) : fR w = false := by rcases h with rfl | rfl | rfl <;> decide
theorem aHn {any : List aA -> Res} {wh : List aA -> aB} : ∀ (k : Nat) (p : List aA), (∀ mid, mid.length < p.length -> (wh mid).Kind ≠ 0 -> ∀ t, any (mid ++ [41] :: t) = some (wh mid, [41] :: t)) -> (gM wh k p).Kind ≠ 0 -> ∀ (j : Nat), p.length < j -> ∀ r, Fol r -> pOne any j (p ++ r) = some (gM wh k p, r) := by
  intro k
  induction k with
  | zero => intro p _ h; exact absurd rfl h
  | succ k ih =>
    intro p hany h j hj r hr
    cases p with
    | nil => exact absurd rfl h
    | cons w l =>
    obtain ⟨j, rfl⟩ : ∃ j', j = j' + 1 := ⟨j - 1, by omega⟩
    rw [aOq] at hj
    rw [kG] at h ⊢
    rw [aOD, mI]
    by_cases h33 : w = [33]
    · rw [if_pos h33] at h ⊢
      rw [if_pos h33]
      by_cases hk : (gM wh k l).Kind = 0
      · rw [if_pos hk] at h; exact absurd rfl h
      · rw [if_neg hk] at h ⊢
        rw [ih l (fun mid hm => hany mid (by rw [aOq]; omega)) hk j (by omega) r hr]; rfl
    · rw [if_neg h33] at h ⊢
      rw [if_neg h33]
      by_cases h40 : w = [40]
      · rw [if_pos h40] at h ⊢
        rw [if_pos h40]
        by_cases hc : 2 < l.length + 1 /\ lF 0 (w :: l) = true
        · rw [if_pos hc] at h ⊢
          have hcl := hc.2
          rw [h40, lF, aHk, if_neg (by omega)] at hcl
          obtain ⟨mid, rfl⟩ := zJ l _ (by omega) hcl
          rw [aOr, aOs, Nat.add_sub_cancel, List.take_left' rfl] at h ⊢
          rw [aOK, aOD, List.nil_append, hany mid (by rw [aOq, aOr]; omega) h r]
          dsimp only
          rw [if_pos rfl]
        · rw [if_neg hc] at h; exact absurd rfl h
      · rw [if_neg h40] at h ⊢
        rw [if_neg h40]
        cases l with
        | nil =>
          rw [if_neg h]
          rcases hr with rfl | ⟨g, t, rfl, hg⟩
          · rfl
          · show (if fR g = true then _ else some (dR w, g :: t)) = _
            rw [if_neg (by rw [Fol.nosign hg]; simp)]
        | cons g l2 =>
          cases l2 with
          | nil => exact absurd rfl h
          | cons w2 l3 =>
            cases l3 with
            | cons _ _ => exact absurd rfl h
            | nil =>
              dsimp only at h ⊢
              by_cases hg : fR g = true
              · rw [if_pos hg] at h ⊢
                by_cases hk : (dR w).Kind = 0 ∨ (dR w2).Kind = 0
                · rw [if_pos hk] at h; exact absurd rfl h
                · rw [if_neg hk] at h ⊢
                  rw [if_neg (fun e => hk (.inl e))]
                  show (if fR g = true then (if (dR w2).Kind = 0 then none else some (aB.mk 7 0 [] g [dR w, dR w2], r)) else _) = _
                  rw [if_pos hg, if_neg (fun e => hk (.inr e))]
              · rw [if_neg hg] at h; exact absurd rfl h
section
variable {one : List aA -> Res} {f : List aA -> aB} {by_ : aA} {FolB : List aA -> Prop} (hb : ∀ t, FolB (by_ :: t))
include hb
theorem aFb : ∀ (ps : List (List aA)), (∀ p, p ∈ ps -> ∀ r, FolB r -> one (p ++ r) = some (f p, r)) -> ∀ (m : Nat), ps.length < m -> ∀ r, FolB r -> (∀ w t, r = w :: t -> w ≠ by_) -> uB one by_ m (glue by_ ps ++ r) = some (ps.map f, r)
  | [], _, m, hm, r, hr, hn => by
    obtain ⟨m, rfl⟩ : ∃ m', m = m' + 1 := ⟨m - 1, by simp at hm; omega⟩
    rw [aB4, List.nil_append]
    cases r with
    | nil => rfl
    | cons w t => rw [uB, if_neg (hn w t rfl)]; rfl
  | p :: ps, h, m, hm, r, hr, hn => by
    obtain ⟨m, rfl⟩ : ∃ m', m = m' + 1 := ⟨m - 1, by omega⟩
    rw [aOq] at hm
    have hfol : FolB (glue by_ ps ++ r) := by
      cases ps with
      | nil => exact hr
      | cons q ps => rw [mL]; exact hb _
    rw [mL, aOD, aOK, uB, if_pos rfl, h p (aOt ..) _ hfol]
    dsimp only
    rw [aFb ps (fun q hq => h q (aOu _ hq)) m (by omega) r hr hn]; rfl
theorem aHo {kind : Int} {u : List aA} (h : (rowX by_ f kind u).Kind ≠ 0) (hone : ∀ p, p.length <= u.length -> (f p).Kind ≠ 0 -> ∀ r, FolB r -> one (p ++ r) = some (f p, r)) (m : Nat) (hm : u.length < m) (r : List aA)
    (hr : FolB r) (hn : ∀ w t, r = w :: t -> w ≠ by_) : pRow one kind by_ m (u ++ r) = some (rowX by_ f kind u, r) := by
  unfold rowX at h ⊢
  obtain ⟨p, ps, hp⟩ := qY by_ u 0 []
  have hj := wQ by_ u 0 []
  rw [hp, aA9, List.nil_append] at hj
  rw [hp] at h ⊢
  by_cases ha : (p :: ps).any (fun p => (f p).Kind == 0) = true
  · rw [if_pos ha] at h; exact absurd rfl h
  · rw [if_neg ha] at h ⊢
    rw [aOO, aOQ] at ha
    have hlen : ∀ q, q ∈ p :: ps -> q.length <= u.length := by
      have glen : ∀ (ps : List (List aA)) q, q ∈ ps -> q.length <= (glue by_ ps).length := by
        intro ps
        induction ps with
        | nil => intro q hq; cases hq
        | cons a ps ih =>
          intro q hq
          rw [mL, aOq, aOr]
          rcases List.mem_cons.1 hq with rfl | hq
          · omega
          · have := ih q hq; omega
      intro q hq
      rw [<- hj, aOr]
      rcases List.mem_cons.1 hq with rfl | hq
      · omega
      · have := glen ps q hq; omega
    have glc : ∀ (ps : List (List aA)), ps.length <= (glue by_ ps).length := by
      intro ps
      induction ps with
      | nil => exact aOv _
      | cons a ps ih => rw [mL, aOq, aOq, aOr]; omega
    have hps : ps.length < m := by
      have := glc ps
      have := congrArg List.length hj
      rw [aOr] at this
      omega
    have hk : ∀ q, q ∈ p :: ps -> (f q).Kind ≠ 0 := fun q hq => by have := ha q hq; simpa using this
    have hfol : FolB (glue by_ ps ++ r) := by
      cases ps with
      | nil => exact hr
      | cons q ps => rw [mL]; exact hb _
    unfold pRow
    conv => lhs; rw [<- hj, aOK, hone p (hlen p (aOt ..)) (hk p (aOt ..)) _ hfol]
    dsimp only
    rw [aFb hb ps (fun q hq r hr => hone q (hlen q (aOu _ hq)) (hk q (aOu _ hq)) r hr) m hps r hr hn]
    rfl
end
def FolO (r : List aA) : Prop := r = [] ∨ ∃ w t, r = w :: t /\ (w = [124] ∨ w = [41])
theorem aKw : ∀ (N : Nat) (u : List aA), u.length <= N -> ∀ (n m : Nat), u.length < n -> u.length < m -> (gB n u).Kind ≠ 0 -> ∀ r, (r = [] ∨ ∃ t, r = [41] :: t) -> pAny m (u ++ r) = some (gB n u, r) := by
  intro N
  induction N using Nat.strongRecOn with
  | _ N ih =>
  intro u hu n m hn hm hk r hr
  obtain ⟨n, rfl⟩ : ∃ n', n = n' + 1 := ⟨n - 1, by omega⟩
  obtain ⟨m, rfl⟩ : ∃ m', m = m' + 1 := ⟨m - 1, by omega⟩
  refine aHo (FolB := FolO) (fun t => .inr ⟨[124], t, rfl, .inl rfl⟩) (f := fun p => rowX [38] (gM (gB n) (n + 1)) 5 p) hk (fun p hp hpk r1 hr1 => ?_) (m + 1) (by omega) r ?_ ?_
  · refine aHo (FolB := Fol) (fun t => .inr ⟨[38], t, rfl, .inl rfl⟩) (f := gM (gB n) (n + 1)) hpk (fun q hq hqk r2 hr2 => ?_) (m + 1) (by omega) r1 ?_ ?_
    · exact aHn (n + 1) q (fun mid hmid hmk t => ih mid.length (by omega) mid (aOv _) n m (by omega) (by omega) hmk _ (.inr ⟨t, rfl⟩)) hqk (m + 1) (by omega) r2 hr2
    · rcases hr1 with rfl | ⟨w, t, rfl, hw⟩
      · exact .inl rfl
      · exact .inr ⟨w, t, rfl, .inr hw⟩
    · intro w t e
      rcases hr1 with rfl | ⟨w', t', rfl, hw⟩
      · cases e
      · injection e with e _
        rw [<- e]
        rcases hw with rfl | rfl <;> decide
  · rcases hr with rfl | ⟨t, rfl⟩
    · exact .inl rfl
    · exact .inr ⟨[41], t, rfl, .inr rfl⟩
  · intro w t e
    rcases hr with rfl | ⟨t', rfl⟩
    · cases e
    · injection e with e _
      rw [<- e]; decide
theorem zK {l : List aA} {n m : Nat} (hn : l.length < n) (hm : l.length < m) (x : aB) : pAny m l = some (x, []) ↔ (gB n l = x /\ x.Kind ≠ 0) := by
  constructor
  · intro h
    obtain ⟨n, rfl⟩ : ∃ n', n = n' + 1 := ⟨n - 1, by omega⟩
    obtain ⟨u, hu⟩ := aKv n l x [] m (by omega) h
    have := hu.eq
    rw [aOH] at this
    subst this
    exact ⟨hu.val, hu.kind⟩
  · rintro ⟨rfl, hk⟩
    have := aKw l.length l (aOv _) n m hn hm hk [] (.inl rfl)
    rwa [aOH] at this
theorem aDj (w : aA) : -1 <= opn w /\ opn w <= 1 := by
  unfold opn; split <;> split <;> omega
theorem aHp (w : aA) (o : Int) (ho : -100000 <= o /\ o <= 100000) {β : Type} (a : Int -> β) :
    (bif w == ([40] : aA) then (bif w == ([41] : aA) then a (IntKind.i64.wrap ((IntKind.i64.wrap (o + (1 : Int))) - (1 : Int))) else a (IntKind.i64.wrap (o + (1 : Int)))) else (bif w == ([41] : aA) then a (IntKind.i64.wrap (o - (1 : Int))) else a o)) = a (o + opn w) := by
  rw [wrap_i64 (n := o + 1) (by omega) (by omega), wrap_i64 (n := o - 1) (by omega) (by omega)]
  unfold opn
  by_cases h : w = [40]
  · subst h; rfl
  · have e : (w == ([40] : aA)) = false := by simpa using h
    rw [e, if_neg h]
    by_cases h1 : w = [41]
    · subst h1; rfl
    · have e1 : (w == ([41] : aA)) = false := by simpa using h1
      rw [e1, if_neg h1, Int.sub_zero, aON]; rfl
def aB5 (l : List aA) (by_ : aA) (out : List (List aA)) (frm i : Nat) (w : aA) (o : Int) : Option (((List (List aA)) × Int × Int × Int) ⊕ ((List (List aA)) × Int)) :=
  bif (bif o == 0 then w == by_ else false) then (slc l (frm : Int) (i : Int)).bind fun x7 => (app 24 out ([x7] : List (List aA))).bind fun x8 => some (.inl (x8, ((i + 1 : Nat) : Int), o, ((i + 1 : Nat) : Int)))
  else some (.inl (out, (frm : Int), o, ((i + 1 : Nat) : Int)))
theorem aHq {l : List aA} {by_ : aA} (hl : l.length <= 50000) (out : List (List aA)) (frm i : Nat) (o : Int) (ho : -100000 <= o /\ o <= 100000) {w : aA} (hw : l[i]? = some w) :
    dH l by_ (out, (frm : Int), o, (i : Int)) = aB5 l by_ out frm i w (o + opn w) := by
  unfold dH
  simp only [aX (aO hw), aNP, bV hw, aOp]
  rw [bM (aO hw) (by unfold maxLen; omega)]
  exact aHp w o ho (aB5 l by_ out frm i w)
theorem aHr {l : List aA} {by_ : aA} (hl : l.length <= 50000) : ∀ (n i frm : Nat) (out : List (List aA)) (o : Int), n + i = l.length -> frm <= i -> out.length <= i -> -(i : Int) <= o /\ o <= (i : Int) -> ∃ out' frm', aR (dH l by_) (out, (frm : Int), o, (i : Int)) = some (out', ((frm' : Nat) : Int)) /\ frm' <= l.length /\ out'.length <= l.length /\ out' ++ [l.drop frm'] = out ++ nN by_ o ((l.take i).drop frm) (l.drop i) := by
  intro n
  induction n with
  | zero =>
    intro i frm out o hn hf ho hoo
    have : i = l.length := by omega
    subst this
    refine ⟨out, frm, ?_, by omega, by omega, ?_⟩
    · rw [aS]
      unfold dH
      simp only [bP, aNQ]
    · rw [List.drop_length, nN, List.take_length]
  | succ n ih =>
    intro i frm out o hn hf ho hoo
    have hlt : i < l.length := by omega
    have hx := aOw hlt
    have hd := aOL hlt
    have ht : l.take (i + 1) = l.take i ++ [l[i]] := by rw [List.take_add_one, hx]; rfl
    generalize l[i] = w at hx hd ht
    have hr := aDj w
    rw [aS, aHq hl out frm i o (by omega) hx, hd, nN]
    unfold aB5
    by_cases h : o + opn w = 0 /\ w = by_
    · have e : (bif o + opn w == 0 then w == by_ else false) = true := by rw [h.1, h.2]; simp
      rw [e, aNP, if_pos h, nY l frm i hf (by omega), aOp, n9 (by simp; omega) (by omega), aOp]
      obtain ⟨out', frm', h1, h2, h3, h4⟩ := ih (i + 1) (i + 1) (out ++ [(l.take i).drop frm]) (o + opn w) (by omega) (aOv _) (by simp; omega) (by omega)
      refine ⟨out', frm', h1, h2, h3, ?_⟩
      have hnil : (l.take (i + 1)).drop (i + 1) = [] := List.drop_eq_nil_of_le (by rw [aOM]; omega)
      rw [h4, hnil, aOK]; rfl
    · have e : (bif o + opn w == 0 then w == by_ else false) = false := by
        by_cases h0 : o + opn w = 0
        · rw [h0]
          have : w ≠ by_ := fun hh => h ⟨h0, hh⟩
          simpa using this
        · have : (o + opn w == 0) = false := by simpa using h0
          rw [this]; rfl
      rw [e, aNQ, if_neg h]
      obtain ⟨out', frm', h1, h2, h3, h4⟩ := ih (i + 1) frm out (o + opn w) (by omega) (by omega) (by omega) (by omega)
      refine ⟨out', frm', h1, h2, h3, ?_⟩
      rw [h4, ht, List.drop_append_of_le_length (by rw [aOM]; omega)]
theorem aDk {l : List aA} {by_ : aA} (hl : l.length <= 50000) : iG l by_ = some (nN by_ 0 [] l) := by
  unfold iG
  obtain ⟨out', frm', h1, h2, h3, h4⟩ := aHr (by_ := by_) hl l.length 0 0 [] 0 rfl (aOv _) (aOy _) (by omega)
  rw [show (([] : List (List aA)), (0 : Int), (0 : Int), (0 : Int)) = (([] : List (List aA)), ((0 : Nat) : Int), (0 : Int), ((0 : Nat) : Int)) from rfl, h1, aOp]
  dsimp only
  rw [jX l frm' h2, aOp, n9 (by simp; omega) (by omega), aOp, h4]
  simp
theorem aEk {l : List aA} (hl : l.length <= 50000) (i : Nat) (o : Int) (ho : -100000 <= o /\ o <= 100000) {w : aA} (hw : l[i]? = some w) :
    cU l (o, (i : Int)) = bif o + opn w == 0 then some (.inr (Nat.beq (i + 1) l.length)) else some (.inl (o + opn w, ((i + 1 : Nat) : Int))) := by
  have hlt := aO hw
  unfold cU
  simp only [aX hlt, aNP, bV hw, aOp]
  rw [bM hlt (by unfold maxLen; omega), wrap_i64 (n := (l.length : Int) - 1) (by omega) (by omega)]
  have e : ((i : Int) == (l.length : Int) - (1 : Int)) = Nat.beq (i + 1) l.length := by
    rw [aOE, beq_iff_eq, Nat.beq_eq]; omega
  rw [e]
  exact aHp w o ho (fun v => bif v == 0 then (some (.inr (Nat.beq (i + 1) l.length)) : Option ((Int × Int) ⊕ Bool)) else some (.inl (v, ((i + 1 : Nat) : Int))))
theorem aEl {l : List aA} (hl : l.length <= 50000) : gF l = some (lF 0 l) := by
  unfold gF
  have key : ∀ (n i : Nat) (o : Int), n + i = l.length -> -(i : Int) <= o /\ o <= (i : Int) -> aR (cU l) (o, (i : Int)) = some (lF o (l.drop i)) := by
    intro n
    induction n with
    | zero =>
      intro i o hn ho
      have : i = l.length := by omega
      subst this
      rw [aS, List.drop_length]
      unfold cU
      simp only [bP, aNQ]; rfl
    | succ n ih =>
      intro i o hn ho
      have hlt : i < l.length := by omega
      have hx := aOw hlt
      have hd := aOL hlt
      generalize l[i] = w at hx hd
      have hr := aDj w
      rw [aS, aEk hl i o (by omega) hx, hd, lF]
      by_cases h0 : o + opn w = 0
      · rw [h0, if_pos rfl]
        show some _ = some _
        congr 1
        rw [aOE, Nat.beq_eq, List.isEmpty_iff, List.drop_eq_nil_iff]; omega
      · have e : (o + opn w == 0) = false := by simpa using h0
        rw [e, if_neg h0, aNQ]
        exact ih (i + 1) (o + opn w) (by omega) (by omega)
  have := key l.length 0 0 rfl (by omega)
  rwa [aOG] at this
def ZK (x : aB) : Prop := x.Kind = 0 -> x = fQ
theorem tK (wh : List aA -> aB) (hw : ∀ l, ZK (wh l)) : ∀ (m : Nat) (l : List aA), ZK (gM wh m l) := by
  intro m
  induction m with
  | zero => intro l _; rfl
  | succ m ih =>
    intro l
    cases l with
    | nil => intro _; rfl
    | cons w l =>
      rw [kG]
      by_cases h33 : w = [33]
      · rw [if_pos h33]
        by_cases hk : (gM wh m l).Kind = 0
        · rw [if_pos hk]; intro _; rfl
        · rw [if_neg hk]; intro h; exact absurd (show (4 : Int) = 0 from h) (by decide)
      · rw [if_neg h33]
        by_cases h40 : w = [40]
        · rw [if_pos h40]
          split
          · exact hw _
          · intro _; rfl
        · rw [if_neg h40]
          match l with
          | [] => exact aF6 w
          | [g] => intro _; rfl
          | [g, w2] =>
            dsimp only
            split
            · split
              · intro _; rfl
              · intro h; exact absurd (show (7 : Int) = 0 from h) (by decide)
            · intro _; rfl
          | g :: w2 :: a :: b => intro _; rfl
theorem aB6 {by_ : aA} {f : List aA -> aB} {kind : Int} (hk : kind ≠ 0) (hf : ∀ l, ZK (f l)) (l : List aA) : ZK (rowX by_ f kind l) := by
  unfold rowX
  obtain ⟨p, ps, hp⟩ := qY by_ l 0 []
  rw [hp]
  split
  · intro _; rfl
  · rename_i h
    rw [aOO, aOQ] at h
    intro h0
    have := h p (aOt ..)
    exact absurd h0 (aBb hk (by simpa using this) _)
theorem wR : ∀ (n : Nat) (l : List aA), ZK (gB n l) := by
  intro n
  induction n with
  | zero => intro l _; rfl
  | succ n ih => intro l; exact aB6 (by decide) (fun l => aB6 (by decide) (tK _ ih _) l) l
theorem aF7 {rec_ : List aA -> Option aB} {wh : List aA -> aB} (hz : ∀ l, ZK (wh l)) {N : Nat} (hN : N <= 50000) (hr : ∀ l, l.length < N -> (∀ w, w ∈ l -> TokG w) -> rec_ l = some (wh l)) :
    ∀ (m M : Nat) (l : List aA), l.length <= N -> l.length < m -> l.length < M -> (∀ w, w ∈ l -> TokG w) -> dJ rec_ M l = some (gM wh m l) := by
  intro m
  induction m with
  | zero => intro M l _ h; omega
  | succ m ih =>
    intro M l hl hm hM hw
    obtain ⟨M, rfl⟩ : ∃ M', M = M' + 1 := ⟨M - 1, by omega⟩
    show fW rec_ (dJ rec_ M) l = _
    unfold fW
    cases l with
    | nil => rfl
    | cons w l =>
      rw [aOq] at hl hm hM
      have hwl : ∀ x, x ∈ l -> TokG x := fun x hx => hw x (aOu _ hx)
      have e0 : ((((w :: l).length : Nat) : Int) == (0 : Int)) = false := by rw [aOq]; simp; omega
      have i0 : idx (w :: l) (0 : Int) = some w := rfl
      have st : slc (w :: l) (1 : Int) (((w :: l).length : Nat) : Int) = some l := by
        have := jX (w :: l) 1 (by simp)
        rwa [aOP, aOG] at this
      rw [e0, aNQ, i0, aOp, kG]
      by_cases h33 : w = [33]
      · have e : (w == ([33] : aA)) = true := by rw [h33]; rfl
        rw [e, aNP, st, aOp, ih M l (by omega) (by omega) (by omega) hwl, aOp, if_pos h33]
        by_cases hk : (gM wh m l).Kind = 0
        · rw [if_pos hk, hk]
          have := tK wh hz m l hk
          rw [this]; rfl
        · have e2 : ((gM wh m l).Kind == 0) = false := by simpa using hk
          rw [if_neg hk, e2]; rfl
      · have e : (w == ([33] : aA)) = false := by simpa using h33
        rw [e, aNQ, aOp, if_neg h33]
        by_cases h40 : w = [40]
        · have e4 : (w == ([40] : aA)) = true := by rw [h40]; rfl
          rw [e4, aNP, if_pos h40]
          by_cases h2 : 2 < l.length + 1
          · have eg : decide ((((w :: l).length : Nat) : Int) > (2 : Int)) = true := decide_eq_true (by rw [aOq]; omega)
            rw [eg, eU rfl, aEl (by rw [aOq]; omega), aOp, aNP]
            cases hc : lF 0 (w :: l) with
            | false => rw [if_neg (fun h => by have := h.2; cases this)]; rfl
            | true =>
              rw [if_pos ⟨h2, rfl⟩, aNP]
              have ew : IntKind.i64.wrap ((((w :: l).length : Nat) : Int) - (1 : Int)) = ((l.length : Nat) : Int) := by rw [aOq, wrap_i64 (by omega) (by omega)]; omega
              rw [ew, show slc (w :: l) (1 : Int) ((l.length : Nat) : Int) = _ from nY (w :: l) 1 l.length (by omega) (by rw [aOq]; omega), aOp]
              have et : ((w :: l).take l.length).drop 1 = l.take (l.length - 1) := by
                obtain ⟨k, hk⟩ : ∃ k, l.length = k + 1 := ⟨l.length - 1, by omega⟩
                rw [hk, aOF, aOP, aOG, Nat.add_sub_cancel]
              rw [et, hr _ (by rw [aOM]; omega) (fun x hx => hwl x (List.mem_of_mem_take hx)), aOp]
          · have eg : decide ((((w :: l).length : Nat) : Int) > (2 : Int)) = false := decide_eq_false (by rw [aOq]; omega)
            rw [eg, aBE rfl, aOp, if_neg (fun h => h2 h.1)]; rfl
        · have e4 : (w == ([40] : aA)) = false := by simpa using h40
          rw [e4, aNQ, if_neg h40]
          have hlw := aC8 (hw w (aOt ..))
          match l, hwl with
          | [], _ =>
            show (((cQ w).bind fun x9 => some x9)) = _
            rw [hlw]; rfl
          | [g], _ => rfl
          | [g, w2], hwl =>
            show ((gidx true [w, g, w2] (1 : Int)).bind fun x10 => (f6 true (dZ x10)).bind fun x11 => _) = _
            rw [uP rfl, show idx [w, g, w2] (1 : Int) = some g from rfl, aOp, eU rfl, aC9, aOp]
            dsimp only
            cases hg : fR g with
            | false => rfl
            | true =>
              show (((cQ w).bind fun x13 => (idx [w, g, w2] (2 : Int)).bind fun x14 => (cQ x14).bind fun x15 => _)) = _
              rw [hlw, aOp, show idx [w, g, w2] (2 : Int) = some w2 from rfl, aOp, aC8 (hwl w2 (by simp)), aOp]
              by_cases k1 : (dR w).Kind = 0
              · rw [if_pos rfl, if_pos (.inl k1), k1]; rfl
              · have ek1 : ((dR w).Kind == 0) = false := by simpa using k1
                by_cases k2 : (dR w2).Kind = 0
                · rw [if_pos rfl, if_pos (.inr k2), ek1, k2]; rfl
                · have ek2 : ((dR w2).Kind == 0) = false := by simpa using k2
                  rw [if_pos rfl, if_neg (fun h => h.elim k1 k2), ek1, ek2]; rfl
          | g :: w2 :: a :: b, _ =>
            have el : ((((w :: g :: w2 :: a :: b).length : Nat) : Int) == (1 : Int)) = false := by simp only [aOq]; simp; omega
            have el3 : ((((w :: g :: w2 :: a :: b).length : Nat) : Int) != (3 : Int)) = true := by simp only [aOq]; simp; omega
            rw [el, el3]; rfl
theorem aHs {by_ : aA} {f : List aA -> aB} {kind : Int} {ps : List (List aA)} {body : Int × aB -> Option ((Int × aB) ⊕ aB)} (hps : 1 <= ps.length /\ ps.length <= 50001) (hz : ∀ l, ZK (f l))
    (hs : ∀ (i : Nat) (p : List aA) (xs : List aB), ps[i]? = some p -> xs.length <= i -> body ((i : Int), aB.mk kind 0 [] [] xs) = bif (f p).Kind == 0 then some (.inr (f p)) else some (.inl (((i + 1 : Nat) : Int), aB.mk kind 0 [] [] (xs ++ [f p]))))
    (hf : ∀ (xs : List aB), xs.length = ps.length -> body ((ps.length : Int), aB.mk kind 0 [] [] xs) = bif ((ps.length : Int) == (1 : Int)) then (idx xs (0 : Int)).bind fun x9 => some (.inr x9) else some (.inr (aB.mk kind 0 [] [] xs))) :
    aR body ((0 : Int), aB.mk kind 0 [] [] []) = some (if ps.any (fun p => (f p).Kind == 0) = true then fQ else aBY kind ((ps.map f).headD fQ) ((ps.map f).drop 1)) := by
  have key : ∀ (n i : Nat), n + i = ps.length -> (∀ p, p ∈ ps.take i -> ((f p).Kind == 0) = false) -> aR body ((i : Int), aB.mk kind 0 [] [] ((ps.take i).map f)) = some (if ps.any (fun p => (f p).Kind == 0) = true then fQ else aBY kind ((ps.map f).headD fQ) ((ps.map f).drop 1)) := by
    intro n
    induction n with
    | zero =>
      intro i hn hall
      have : i = ps.length := by omega
      subst this
      rw [List.take_length] at hall ⊢
      rw [aS, hf _ (by simp), if_neg (by rw [aOO, aOQ]; intro p hp; rw [hall p hp]; simp)]
      unfold aBY
      match ps, hps with
      | [p], _ => rfl
      | p :: q :: r, _ =>
        have e : ((((p :: q :: r).length : Nat) : Int) == (1 : Int)) = false := by simp only [aOq]; simp; omega
        rw [e]; rfl
    | succ n ih =>
      intro i hn hall
      have hlt : i < ps.length := by omega
      have hx := aOw hlt
      have hmem := List.getElem_mem hlt
      have ht : ps.take (i + 1) = ps.take i ++ [ps[i]] := by rw [List.take_add_one, hx]; rfl
      generalize ps[i] = p at hx ht hmem
      rw [aS, hs i p _ hx (by simp; omega)]
      cases hk : (f p).Kind == 0 with
      | true =>
        rw [aNP, if_pos (List.any_eq_true.2 ⟨p, hmem, hk⟩), hz p (eq_of_beq hk)]
      | false =>
        have := ih (i + 1) (by omega) (fun q hq => by
          rw [ht] at hq
          rcases List.mem_append.1 hq with hq | hq
          · exact hall q hq
          · rw [List.mem_singleton.1 hq]; exact hk)
        rw [ht, List.map_append] at this
        exact this
  have := key ps.length 0 rfl (fun p hp => by simp at hp)
  exact this
theorem oZ (by_ : aA) : ∀ (l : List aA) (o : Int) (cur : List aA), (nN by_ o cur l).length <= l.length + 1 /\ ∀ p, p ∈ nN by_ o cur l -> p.length <= cur.length + l.length /\ ∀ w, w ∈ p -> w ∈ cur ∨ w ∈ l
  | [], o, cur => by rw [nN]; exact ⟨by simp, fun p hp => by rw [List.mem_singleton.1 hp]; exact ⟨by simp, fun w hw => .inl hw⟩⟩
  | w :: l, o, cur => by
    rw [nN]
    split
    · obtain ⟨h1, h2⟩ := oZ by_ l (o + opn w) []
      refine ⟨by rw [aOq, aOq]; omega, fun p hp => ?_⟩
      rcases List.mem_cons.1 hp with rfl | hp
      · exact ⟨by omega, fun w hw => .inl hw⟩
      · obtain ⟨h3, h4⟩ := h2 p hp
        rw [aOB] at h3
        refine ⟨by rw [aOq]; omega, fun v hv => ?_⟩
        rcases h4 v hv with h | h
        · cases h
        · exact .inr (aOu _ h)
    · obtain ⟨h1, h2⟩ := oZ by_ l (o + opn w) (cur ++ [w])
      refine ⟨by rw [aOq]; omega, fun p hp => ?_⟩
      obtain ⟨h3, h4⟩ := h2 p hp
      rw [aOr, aOs] at h3
      refine ⟨by rw [aOq]; omega, fun v hv => ?_⟩
      rcases h4 v hv with h | h
      · rcases List.mem_append.1 h with h | h
        · exact .inl h
        · rw [List.mem_singleton.1 h]; exact .inr (aOt ..)
      · exact .inr (aOu _ h)
theorem aF8 : ∀ (n M : Nat) (l : List aA), l.length <= 40000 -> l.length < n -> l.length < M -> (∀ w, w ∈ l -> TokG w) -> bA M l = some (gB n l) := by
  intro n
  induction n with
  | zero => intro M l _ h; omega
  | succ n ih =>
    intro M l hl hn hM hw
    obtain ⟨M, rfl⟩ : ∃ M', M = M' + 1 := ⟨M - 1, by omega⟩
    show fX (bA M) l = _
    unfold fX
    rw [xC]
    -- a row of '&'
    have hand : ∀ (p : List aA), p.length <= l.length -> (∀ w, w ∈ p -> TokG w) -> ∀ k, dL (bA M) (k + 1) p [38] 5 = some (rowX [38] (gM (gB n) (n + 1)) 5 p) := by
      intro p hp hpw k
      show dK (bA M) (dL (bA M) k) p [38] 5 = _
      unfold dK
      rw [aDk (by omega), aOp]
      obtain ⟨q1, q2⟩ := oZ [38] p 0 []
      obtain ⟨p0, ps0, hps0⟩ := qY [38] p 0 []
      have hne : 1 <= (nN [38] 0 [] p).length := by rw [hps0]; simp
      refine aHs (by_ := [38]) (f := gM (gB n) (n + 1)) ⟨hne, by omega⟩ (tK _ (wR n) _) (fun i q xs hx hxs => ?_) (fun xs hxs => ?_)
      · have hq := q2 q (aOx hx)
        rw [aOB] at hq
        have hqw : ∀ w, w ∈ q -> TokG w := fun w hwq => (hq.2 w hwq).elim (fun h => by cases h) (hpw w)
        have hb := aF7 (rec_ := bA M) (wh := gB n) (wR n) (N := l.length) (by omega) (fun l' hl' hw' => ih M l' (by omega) (by omega) (by omega) hw') (n + 1) 1000000 q (by omega) (by omega) (by omega) hqw
        have hlt := aO hx
        unfold dA
        simp only [aX hlt, aNP, bV hx, aOp]
        rw [show (([38] : aA) == ([124] : aA)) = false from rfl, aNQ]
        show ((dJ (bA M) 1000000 q).bind _) = _
        rw [hb, aOp, n9 (by simp; omega) (by omega), bM hlt (by unfold maxLen; omega)]
        rfl
      · unfold dA
        simp only [bP, aNQ]
    show dK (bA M) (dL (bA M) 999999) l [124] 6 = _
    unfold dK
    rw [aDk (by omega), aOp]
    obtain ⟨q1, q2⟩ := oZ [124] l 0 []
    obtain ⟨p0, ps0, hps0⟩ := qY [124] l 0 []
    have hne : 1 <= (nN [124] 0 [] l).length := by rw [hps0]; simp
    refine aHs (by_ := [124]) (f := fun p => rowX [38] (gM (gB n) (n + 1)) 5 p) ⟨hne, by omega⟩ (fun p => aB6 (by decide) (tK _ (wR n) _) p) (fun i q xs hx hxs => ?_) (fun xs hxs => ?_)
    · have hq := q2 q (aOx hx)
      rw [aOB] at hq
      have hqw : ∀ w, w ∈ q -> TokG w := fun w hwq => (hq.2 w hwq).elim (fun h => by cases h) (hw w)
      have hlt := aO hx
      unfold dA
      simp only [aX hlt, aNP, bV hx, aOp]
      rw [show (([124] : aA) == ([124] : aA)) = true from rfl, aNP, hand q (by omega) hqw 999998, aOp, n9 (by simp; omega) (by omega), bM hlt (by unfold maxLen; omega)]
      rfl
    · unfold dA
      simp only [bP, aNQ]
structure TokS (w : aA) : Prop where
  good : TokG w
  quo : w.head? = some 39 -> ∃ a, w = 39 :: (a ++ [39]) /\ a.contains 39 = false
  ref : refN w > 0 -> refN w = (w.length : Int)
theorem aI0 {s w s' : aA} (hs : s.length <= 100000) (h : nxt s = some (w, s')) : TokS w := by
  have hg := aKj hs h
  obtain ⟨_, h1, h2, _, h3, h4⟩ := gP h
  cases hu : skip s with
  | nil => rw [hu] at h4; exact absurd rfl h4
  | cons c t =>
    rw [hu] at h3 h4
    have hwn := kS c t
    refine ⟨hg, fun hq => ?_, fun hr => ?_⟩
    · have hc : c = 39 := by
        rw [h3, List.head?_take, if_neg h4] at hq
        injection hq
      subst hc
      rw [show ((39 : UInt8) == 39) = true from rfl, aNP] at hwn
      cases hcc : (cutC 39 t).2.2 with
      | false => rw [hcc, aNQ] at hwn; exact absurd hwn h4
      | true =>
        rw [hcc, aNP] at hwn
        refine ⟨(cutC 39 t).1, ?_, xU 39 t hcc⟩
        rw [h3, hwn, aOF]
        congr 1
        conv => lhs; arg 2; rw [vM 39 t hcc]
        rw [show (cutC 39 t).1 ++ 39 :: (cutC 39 t).2.1 = ((cutC 39 t).1 ++ [39]) ++ (cutC 39 t).2.1 by simp, List.take_left' (by simp)]
    · have h36 : c = 36 := by
        cases hh : aY w [36] with
        | false => rw [oY hh] at hr; omega
        | true =>
          obtain ⟨t', ht'⟩ := mH hh
          obtain ⟨k, hk⟩ : ∃ k, fP (c :: t) = k + 1 := ⟨fP (c :: t) - 1, by omega⟩
          rw [h3, hk, aOF] at ht'
          injection ht'
      subst h36
      cases hr0 : decide (refN (36 :: t) > 0) with
      | false =>
        exfalso
        rw [hr0] at hwn
        have : fP (36 :: t) = 0 := by
          rw [hwn]
          show (bif (t.head? == some 61) && false then 2 else 0) = 0
          rw [Bool.and_false]; rfl
        exact h4 this
      | true =>
        obtain ⟨p, v, hp, e1, e2⟩ := y9 (of_decide_eq_true hr0)
        have hw : fP (36 :: t) = p.length := by
          rw [hwn, hr0]
          show (refN (36 :: t)).toNat = _
          rw [e2]; simp
        have hwp : w = p := by rw [h3, hw, e1, List.take_left' rfl]
        have := aG4 hp []
        rw [aOH] at this
        rw [hwp, this]
theorem aHt : ∀ (n : Nat) (s : aA), s.length <= n -> s.length <= 100000 -> ∀ w, w ∈ (lexW s).1 -> TokS w := by
  intro n
  induction n with
  | zero =>
    intro s hs _ w hw
    have : s = [] := List.eq_nil_of_length_eq_zero (by omega)
    subst this
    rw [qX] at hw; cases hw
  | succ n ih =>
    intro s hs hb w hw
    cases hn : nxt s with
    | none => rw [nC hn] at hw; cases hw
    | some p =>
      obtain ⟨w', s'⟩ := p
      obtain ⟨hl, _, _, hlen, _⟩ := gP hn
      rw [hl] at hw
      rcases List.mem_cons.1 hw with rfl | hw
      · exact aI0 hb hn
      · exact ih s' (by omega) (by omega) w hw
theorem zL : ∀ (n : Nat) (s : aA), s.length <= n -> (lexW s).1.length <= s.length := by
  intro n
  induction n with
  | zero =>
    intro s hs
    have : s = [] := List.eq_nil_of_length_eq_zero (by omega)
    subst this
    rw [qX]; exact aOv _
  | succ n ih =>
    intro s hs
    cases hn : nxt s with
    | none => rw [nC hn]; simp
    | some p =>
      obtain ⟨w', s'⟩ := p
      obtain ⟨hl, _, _, hlen, _⟩ := gP hn
      rw [hl, aOq]
      have := ih s' (by omega)
      show (lexW s').1.length + 1 <= _
      omega
def Fine (x : aB) : Prop := wl x = true /\ KOk x
theorem aHu (w : aA) : -1099511627776 <= (sgn w).1 /\ (sgn w).1 <= 1099511627776 := by
  unfold sgn
  have h1 := sH w
  have h2 := sH (w.drop 1)
  cases aY w [45] with
  | true => dsimp only [aNP]; omega
  | false => dsimp only [aNQ]; omega
theorem zM {w : aA} (h : TokS w) (hk : (dR w).Kind ≠ 0) : Fine (dR w) /\ iY (dR w) = true := by
  have hm : w.length <= maxLen := by have := h.good.len; unfold maxLen; omega
  have mk : ∀ (k n : Int) (t : aA), t.length <= maxLen -> iY (aB.mk k n t [] []) = true -> p6 (aB.mk k n t [] []) = true -> Fine (aB.mk k n t [] []) /\ iY (aB.mk k n t [] []) = true := fun k n t ht h1 h2 =>
    ⟨⟨by rw [aDh, h1, aNP, h2], .mk _ (aOy _) (fun k hk => by cases hk) ht⟩, h1⟩
  unfold dR at hk ⊢
  cases h39 : w.head? == some 39 with
  | true =>
    obtain ⟨a, ha, hc⟩ := h.quo (eq_of_beq h39)
    rw [aNP]
    have e : ((w.drop 1).take (w.length - 2)) = a := by
      rw [ha]
      simp only [aOP, aOG, aOq, aOr, aOB]
      rw [show a.length + (0 + 1) + 1 - 2 = a.length by omega, List.take_left' rfl]
    rw [e]
    have hal : a.length <= maxLen := by
      have := congrArg List.length ha
      simp at this
      have : w.length <= maxLen := hm
      omega
    refine mk 2 0 a hal rfl ?_
    show (true && true && (true && !(a.contains 39))) = true
    rw [hc]; rfl
  | false =>
    rw [h39, aNQ] at hk
    rw [aNQ]
    cases hr : decide (refN w > 0) with
    | true =>
      rw [aNP]
      refine mk 3 0 w hm rfl ?_
      show (true && true && (true && decide (refN w > 0) && (refN w == (w.length : Int)))) = true
      rw [hr, h.ref (of_decide_eq_true hr)]; simp
    | false =>
      rw [hr, aNQ] at hk
      rw [aNQ]
      cases hs : (sgn w).2 == 0 with
      | false => rw [hs] at hk; exact absurd rfl hk
      | true =>
        rw [aNP]
        have hrg := aHu w
        refine mk 1 (sgn w).1 [] (aOy _) rfl ?_
        show (true && true && (true && decide ((sgn w).1 ≥ -1099511627776) && decide ((sgn w).1 <= 1099511627776))) = true
        rw [decide_eq_true hrg.1, decide_eq_true hrg.2]; rfl
theorem zN {k : Int} {s : aA} {kids : List aB} (hs : iY (aB.mk k 0 [] s kids) = false) (hn : aDg (aB.mk k 0 [] s kids) = true) (hl : kids.length <= maxLen) (h : ∀ x, x ∈ kids -> Fine x) : Fine (aB.mk k 0 [] s kids) := by
  refine ⟨?_, .mk _ hl (fun x hx => (h x hx).2) (aOy _)⟩
  rw [aDh, hs, aNQ, hn, uT]
  have : kids.all wl = true := List.all_eq_true.2 fun x hx => (h x hx).1
  show (true && true && kids.all wl && true) = true
  rw [this]; rfl
theorem aF9 {wh : List aA -> aB} (hw : ∀ l, l.length <= 100000 -> (∀ w, w ∈ l -> TokS w) -> (wh l).Kind ≠ 0 -> Fine (wh l)) : ∀ (m : Nat) (l : List aA), l.length <= 100000 -> (∀ w, w ∈ l -> TokS w) -> (gM wh m l).Kind ≠ 0 -> Fine (gM wh m l) := by
  intro m
  induction m with
  | zero => intro l _ _ h; exact absurd rfl h
  | succ m ih =>
    intro l hl ht h
    cases l with
    | nil => exact absurd rfl h
    | cons w l =>
      rw [aOq] at hl
      have htl : ∀ x, x ∈ l -> TokS x := fun x hx => ht x (aOu _ hx)
      rw [kG] at h ⊢
      by_cases h33 : w = [33]
      · rw [if_pos h33] at h ⊢
        by_cases hk : (gM wh m l).Kind = 0
        · rw [if_pos hk] at h; exact absurd rfl h
        · rw [if_neg hk]
          exact zN rfl rfl (by simp [maxLen]) fun x hx => by rw [List.mem_singleton.1 hx]; exact ih l (by omega) htl hk
      · rw [if_neg h33] at h ⊢
        by_cases h40 : w = [40]
        · rw [if_pos h40] at h ⊢
          by_cases hc : 2 < l.length + 1 /\ lF 0 (w :: l) = true
          · rw [if_pos hc] at h ⊢
            exact hw _ (by rw [aOM]; omega) (fun x hx => htl x (List.mem_of_mem_take hx)) h
          · rw [if_neg hc] at h; exact absurd rfl h
        · rw [if_neg h40] at h ⊢
          match l, htl with
          | [], _ => exact (zM (ht w (aOt ..)) h).1
          | [g], _ => exact absurd rfl h
          | [g, w2], htl =>
            dsimp only at h ⊢
            by_cases hg : fR g = true
            · rw [if_pos hg] at h ⊢
              by_cases hk : (dR w).Kind = 0 ∨ (dR w2).Kind = 0
              · rw [if_pos hk] at h; exact absurd rfl h
              · rw [if_neg hk]
                have f1 := zM (ht w (aOt ..)) (fun e => hk (.inl e))
                have f2 := zM (htl w2 (by simp)) (fun e => hk (.inr e))
                refine zN rfl ?_ (by simp [maxLen]) fun x hx => ?_
                · show (fR g && true && (iY (dR w) && (iY (dR w2) && true))) = true
                  rw [hg, f1.2, f2.2]; rfl
                · rcases List.mem_cons.1 hx with rfl | hx
                  · exact f1.1
                  · rw [List.mem_singleton.1 hx]; exact f2.1
            · rw [if_neg hg] at h; exact absurd rfl h
          | g :: w2 :: a :: b, _ => exact absurd rfl h
theorem aFc {by_ : aA} {f : List aA -> aB} {kind : Int} (hkk : kind = 5 ∨ kind = 6) {l : List aA} (hl : l.length <= 100000) (hf : ∀ p, p.length <= l.length -> (∀ w, w ∈ p -> w ∈ l) -> (f p).Kind ≠ 0 -> Fine (f p)) (h : (rowX by_ f kind l).Kind ≠ 0) : Fine (rowX by_ f kind l) := by
  unfold rowX at h ⊢
  obtain ⟨q1, q2⟩ := oZ by_ l 0 []
  obtain ⟨p, ps, hp⟩ := qY by_ l 0 []
  rw [hp] at h q1 q2 ⊢
  by_cases ha : (p :: ps).any (fun p => (f p).Kind == 0) = true
  · rw [if_pos ha] at h; exact absurd rfl h
  · rw [if_neg ha]
    rw [aOO, aOQ] at ha
    have each : ∀ q, q ∈ p :: ps -> Fine (f q) := fun q hq => by
      obtain ⟨h1, h2⟩ := q2 q hq
      rw [aOB] at h1
      exact hf q (by omega) (fun w hw => (h2 w hw).elim (fun h => by cases h) id) (by have := ha q hq; simpa using this)
    unfold aBY
    cases ps with
    | nil => exact each p (aOt ..)
    | cons q ps =>
      show Fine (aB.mk kind 0 [] [] (f p :: (q :: ps).map f))
      refine zN ?_ ?_ ?_ fun x hx => ?_
      · rcases hkk with rfl | rfl <;> rfl
      · rcases hkk with rfl | rfl <;> rfl
      · rw [aOq, List.length_map]
        simp only [aOq] at q1 ⊢
        unfold maxLen; omega
      · rcases List.mem_cons.1 hx with rfl | hx
        · exact each p (aOt ..)
        · obtain ⟨q', hq', rfl⟩ := List.mem_map.1 hx
          exact each q' (aOu _ hq')
theorem aBc : ∀ (n : Nat) (l : List aA), l.length <= 100000 -> (∀ w, w ∈ l -> TokS w) -> (gB n l).Kind ≠ 0 -> Fine (gB n l) := by
  intro n
  induction n with
  | zero => intro l _ _ h; exact absurd rfl h
  | succ n ih =>
    intro l hl ht h
    refine aFc (.inr rfl) hl (fun p hp hpw hpk => ?_) h
    refine aFc (.inl rfl) (by omega) (fun q hq hqw hqk => ?_) hpk
    exact aF9 ih _ q (by omega) (fun w hw => ht w (hpw w (hqw w hw))) hqk
theorem aJJ : ∀ (n : Nat) (x : aB), sz x <= n -> wl x = true -> xB x := by
  intro n
  induction n with
  | zero => intro x h; have := pV x; omega
  | succ n ih =>
    intro x h hw
    have hs := sM x
    rw [aDh] at hw
    cases hsim : iY x with
    | true =>
      rw [hsim, aNP] at hw
      unfold p6 at hw
      simp only [aOz, List.isEmpty_iff] at hw
      have hk := hw.1.2
      refine .mk x (fun h4 => ?_) (fun k hkm => by rw [hk] at hkm; cases hkm)
      unfold iY at hsim
      rw [eq_of_beq h4] at hsim
      exact absurd hsim (by decide)
    | false =>
      rw [hsim, aNQ] at hw
      simp only [aOz] at hw
      refine .mk x (fun h4 => ?_) (fun k hkm => ?_)
      · have hn := hw.2
        unfold aDg at hn
        have h7 : (x.Kind == 7) = false := by rw [eq_of_beq h4]; rfl
        rw [h7, aNQ, h4, aNP, aOz] at hn
        intro h0
        rw [h0] at hn
        exact absurd hn.2 (by decide)
      · have hall := hw.1.2
        rw [uT, List.all_eq_true] at hall
        have := sN hkm
        exact ih k (by omega) (hall k hkm)
def parX (s : aA) : aB × Int :=
  bif decide (s.length > 400) then (fQ, 2) else
  bif !(lexW s).2 || ((gB ((lexW s).1.length + 1) (lexW s).1).Kind == 0) then (fQ, 50) else
  bif !decide (sz (gB ((lexW s).1.length + 1) (lexW s).1) <= 60) then (fQ, 4) else
  bif decide (dp (gB ((lexW s).1.length + 1) (lexW s).1) > 16) then (fQ, 5) else (gB ((lexW s).1.length + 1) (lexW s).1, 0)
theorem aHv (n : Nat) : decide ((((mn61 n : Nat) : Int)) > (60 : Int)) = !decide (n <= 60) := by
  unfold mn61
  by_cases h : n <= 60
  · rw [if_pos h, decide_eq_true h, decide_eq_false (by omega)]; rfl
  · rw [if_neg h, decide_eq_false h]; rfl
theorem aEm (s : aA) : gZ s = some (parX s) := by
  unfold gZ parX
  have e : decide ((s.length : Int) > (400 : Int)) = decide (s.length > 400) := by rw [aOE, decide_eq_true_eq, decide_eq_true_eq]; omega
  rw [e]
  by_cases h4 : s.length > 400
  · rw [decide_eq_true h4]; rfl
  · rw [decide_eq_false h4, aNQ, aNQ, aIU (by omega), aOp]
    have htok := aHt s.length s (aOv _) (by omega)
    have hcnt := zL s.length s (aOv _)
    rw [show lR (lexW s).1 = _ from aF8 ((lexW s).1.length + 1) 1000000 (lexW s).1 (by omega) (by omega) (by omega) (fun w hw => (htok w hw).good), aOp]
    generalize hx : gB ((lexW s).1.length + 1) (lexW s).1 = x
    cases hok : (lexW s).2 with
    | false => rfl
    | true =>
      cases hk : x.Kind == 0 with
      | true => rfl
      | false =>
        have hk' : x.Kind ≠ 0 := by simpa using hk
        have hf := aBc ((lexW s).1.length + 1) (lexW s).1 (by omega) htok (by rw [hx]; exact hk')
        rw [hx] at hf
        show ((d4 x (60 : Int)).bind _) = _
        rw [aEh hf.2, aOp, aHv]
        show _ = some (bif !decide (sz x <= 60) then (fQ, 4) else bif decide (dp x > 16) then (fQ, 5) else (x, 0))
        by_cases h6 : sz x <= 60
        · rw [decide_eq_true h6, aOC, aNQ, aNQ, aE7 (by omega) (aJJ _ x (aOv _) hf.1), aOp]
          cases decide (dp x > 16) <;> rfl
        · rw [decide_eq_false h6]; rfl
theorem xD (s : aA) : oJ s = some (parX s) := by
  unfold oJ parX
  have e : decide ((s.length : Int) > (400 : Int)) = decide (s.length > 400) := by rw [aOE, decide_eq_true_eq, decide_eq_true_eq]; omega
  rw [e]
  by_cases h4 : s.length > 400
  · rw [decide_eq_true h4]; rfl
  · rw [decide_eq_false h4, aNQ, aNQ]
    have hcnt := zL s.length s (aOv _)
    obtain ⟨y, st, h1, h2⟩ := aKn 1000 1000000 s (by omega) (by omega) (by omega)
    rw [show oQ (aC.mk s false) = _ from h1, aOp, yS, aOp]
    have hbad : ∀ (b : Bool) (s2 : aA), (b || !(skip s2 == ([] : aA))) = true -> (!(lexW s).2 || ((gB ((lexW s).1.length + 1) (lexW s).1).Kind == 0)) = true ->
        (bif (bif b then true else (!(skip s2 == ([] : aA)))) then some ((aB.mk (0 : Int) (0 : Int) ([] : aA) ([] : aA) ([] : List aB)), (50 : Int)) else
          ((pP y).bind fun x3 => bif (!x3) then some ((aB.mk (0 : Int) (0 : Int) ([] : aA) ([] : aA) ([] : List aB)), (4 : Int)) else (sF y).bind fun x4 => bif (decide (x4 > (16 : Int))) then some ((aB.mk (0 : Int) (0 : Int) ([] : aA) ([] : aA) ([] : List aB)), (5 : Int)) else some (y, (0 : Int)))) =
        some (bif !(lexW s).2 || ((gB ((lexW s).1.length + 1) (lexW s).1).Kind == 0) then (fQ, 50) else
          bif !decide (sz (gB ((lexW s).1.length + 1) (lexW s).1) <= 60) then (fQ, 4) else
          bif decide (dp (gB ((lexW s).1.length + 1) (lexW s).1) > 16) then (fQ, 5) else (gB ((lexW s).1.length + 1) (lexW s).1, 0)) := fun b s2 hb h => by
      rw [h, aNP]
      have : (bif b then true else (!(skip s2 == ([] : aA)))) = true := by
        cases b with
        | true => rfl
        | false => exact hb
      rw [this]; rfl
    cases hp : pAny 1000 (lexW s).1 with
    | none =>
      rw [hp] at h2
      dsimp only at h2
      refine hbad st.bad st.s (by rw [h2]; rfl) ?_
      by_cases hk : (gB ((lexW s).1.length + 1) (lexW s).1).Kind = 0
      · rw [hk]; simp
      · have := (zK (l := (lexW s).1) (n := (lexW s).1.length + 1) (m := 1000) (by omega) (by omega) _).2 ⟨rfl, hk⟩
        rw [hp] at this; cases this
    | some p =>
      obtain ⟨x, r⟩ := p
      rw [hp] at h2
      obtain ⟨rfl, h3, h5, _⟩ := h2
      by_cases hr : r = []
      · subst hr
        obtain ⟨e1, e2⟩ := (zK (l := (lexW s).1) (n := (lexW s).1.length + 1) (m := 1000) (by omega) (by omega) _).1 hp
        cases hok : (lexW s).2 with
        | false =>
          have : (!(lexW s).2 || ((gB ((lexW s).1.length + 1) (lexW s).1).Kind == 0)) = true := by rw [hok]; rfl
          have := hbad st.bad st.s ?_ this
          · rw [hok] at this; exact this
          · rw [hok] at h5
            have hs2 : skip st.s ≠ [] := by
              intro h0
              have := lL st.s
              rw [h0, qX, h5] at this
              cases this
            have : (skip st.s == ([] : aA)) = false := by simpa using hs2
            rw [this]; simp
        | true =>
          rw [hok] at h5
          have hs2 : skip st.s = [] := by
            cases hn : nxt st.s with
            | none =>
              have := nC hn
              rw [h5] at this
              injection this with _ this
              exact eq_of_beq this.symm
            | some q =>
              obtain ⟨w, s'⟩ := q
              obtain ⟨hl, _⟩ := gP hn
              rw [hl] at h5; cases h5
          have ek : (y.Kind == 0) = false := by simpa using e2
          dsimp only
          rw [h3, hs2, e1, ek]
          show ((pP y).bind _) = some (bif !decide (sz y <= 60) then (fQ, 4) else bif decide (dp y > 16) then (fQ, 5) else (y, 0))
          rw [aJH, aOp]
          by_cases h6 : sz y <= 60
          · rw [decide_eq_true h6, aOC, aNQ, aNQ, aDe (by omega), aOp]
            cases decide (dp y > 16) <;> rfl
          · rw [decide_eq_false h6]; rfl
      · refine hbad st.bad st.s ?_ ?_
        · have hs2 : skip st.s ≠ [] := by
            intro h0
            have := lL st.s
            rw [h0, qX, h5] at this
            injection this with this _
            exact hr this.symm
          have : (skip st.s == ([] : aA)) = false := by simpa using hs2
          rw [this]; simp
        · by_cases hk : (gB ((lexW s).1.length + 1) (lexW s).1).Kind = 0
          · rw [hk]; simp
          · have := (zK (l := (lexW s).1) (n := (lexW s).1.length + 1) (m := 1000) (by omega) (by omega) _).2 ⟨rfl, hk⟩
            rw [hp] at this
            injection this with this
            injection this with _ this
            exact absurd this hr
theorem xW (n : Nat) : (Lib.decDigits n).length <= n + 1 := by
  induction n using Nat.strongRecOn with
  | _ n ih =>
    rw [Lib.decDigits]
    by_cases h : n < 10
    · rw [dif_pos h]; simp
    · rw [dif_neg h, aOr]
      have := ih (n / 10) (by omega)
      simp only [aOs]
      omega
def numW (n : Int) : aA := bif decide (n < 0) then 45 :: Lib.decDigits (-n).toNat else Lib.decDigits n.toNat
theorem aI1 {n : Int} (h : -1099511627776 <= n /\ n <= 1099511627776) : (numW n).length <= 1099511627778 := by
  unfold numW
  cases decide (n < 0) with
  | true => have := xW (-n).toNat; rw [aNP, aOq]; omega
  | false => have := xW n.toNat; rw [aNQ]; omega
theorem aHw {n : Int} (h : 0 <= n) (h' : n <= 1099511627776) : m9 n = some (Lib.decDigits n.toNat) := by
  have := Dec_eq n.toNat (by omega)
  rwa [Int.toNat_of_nonneg h] at this
theorem aBd {n : Int} (h : 0 <= n) (h' : n <= 1099511627776) : d3 n 10 = some (Lib.decDigits n.toNat) := by
  have := aGL n.toNat (by omega)
  rwa [Int.toNat_of_nonneg h] at this
theorem aDl {x : aB} (h : p6 x = true) : x.Kids = [] /\ x.Sign = [] := by
  unfold p6 at h
  simp only [aOz, List.isEmpty_iff, beq_iff_eq] at h
  exact ⟨h.1.2, h.1.1⟩
theorem xX {x : aB} (h : p6 x = true) (hk : (x.Kind == 1) = true) : -1099511627776 <= x.N /\ x.N <= 1099511627776 := by
  unfold p6 at h
  rw [hk] at h
  simp only [aNP, aOz, decide_eq_true_eq] at h
  exact ⟨h.2.1.2, h.2.2⟩
theorem aDm {n : Nat} {x : aB} (h : p6 x = true) (hk : (x.Kind == 1) = true) : f0 (n + 1) x = some (numW x.N) := by
  have hn := xX h hk
  show gS (f0 n) x = _
  unfold gS
  have hl : aR (gO (f0 n) x) (([] : List aA), (0 : Int)) = some [] := by
    rw [aS]
    unfold gO
    rw [(aDl h).1]; rfl
  rw [hl, aOp, hk, aNP]
  unfold numW
  by_cases h0 : x.N < 0
  · rw [decide_eq_true h0, aNP, aNP, Int.zero_sub, wrap_i64 (by omega) (by omega), pQ (by omega) (by omega), aHw (by omega) (by omega), aOp, jG]
    · rfl
    · have := xW (-x.N).toNat
      unfold maxLen; simp only [aOs]; omega
  · rw [decide_eq_false h0, aNQ, aNQ, pQ (by omega) (by omega), aHw (by omega) (by omega)]; rfl
theorem aHx {n : Nat} {x : aB} (h : p6 x = true) (hk : (x.Kind == 1) = true) : aQ (n + 1) x = some (numW x.N) := by
  have hn := xX h hk
  show bZ (aQ n) x = _
  unfold bZ
  rw [hk, aNP, aNP]
  unfold numW
  by_cases h0 : x.N < 0
  · rw [decide_eq_true h0, aNP, aNP, Int.zero_sub, wrap_i64 (by omega) (by omega), pQ (by omega) (by omega), aBd (by omega) (by omega), aOp, jG]
    · rfl
    · have := xW (-x.N).toNat
      unfold maxLen; simp only [aOs]; omega
  · rw [decide_eq_false h0, aNQ, aNQ, pQ (by omega) (by omega), aBd (by omega) (by omega)]; rfl
structure ESm2 (e : aL) : Prop extends ESm e where
  host : e.Host.length <= 10000
  referer : e.Referer.length <= 10000
theorem aDn {n : Nat} {l : List aE} (h : PSm n l) (k : aA) : (aCY l k).1.length <= n := by
  unfold aCY
  cases hf : l.find? (fun p => p.Name == k) with
  | none => exact aOy _
  | some p => exact (h p (List.mem_of_find?_eq_some hf)).2
theorem aFd (s w : aA) : (digS s w).length <= s.length := by
  unfold digS
  cases hasW s w with
  | true =>
    have := nM dpB (s.drop ((Lib.index s w).toNat + w.length))
    rw [aOA] at this
    rw [aNP]; omega
  | false => exact aOy _
theorem aKx (s k : aA) : (agK (agS s) k).length <= s.length + 10 := by
  have h1 : (agB s).1.length <= 10 /\ (agB s).2.length <= s.length := by
    unfold agB
    cases hasW s uA with
    | true => exact ⟨(by decide : uA.length <= 10), aFd ..⟩
    | false =>
      cases hasW s kR with
      | true => exact ⟨(by decide : aBQ.length <= 10), aFd ..⟩
      | false => exact ⟨(by decide : aC2.length <= 10), aOy _⟩
  have h2 : (agO s).length <= 10 := by
    unfold agO
    cases hasW s [87, 105, 110, 100, 111, 119, 115] <;> cases hasW s [77, 97, 99] <;> cases hasW s [88, 49, 49] <;> decide
  unfold agK agS
  cases k == ([98, 114, 111, 119, 115, 101, 114] : aA) with
  | true => rw [aNP]; dsimp only; omega
  | false =>
    cases k == ([118, 101, 114, 115, 105, 111, 110] : aA) with
    | true => rw [aNQ, aNP]; dsimp only; omega
    | false =>
      cases k == ([111, 115] : aA) with
      | true => rw [aNQ, aNQ, aNP]; dsimp only; omega
      | false => exact aOy _
theorem aI2 {s : aA} (hs : s.length <= 10000) : PSm s.length (aEd s) := by
  obtain ⟨r, h1, _, h3, _⟩ := xA hs
  unfold aEd; rw [h1]; exact h3
theorem aHy {s : aA} (hs : s.length <= 10000) : PSm s.length (yZ s) := by
  obtain ⟨r, h1, _, h3, _⟩ := aA4 hs
  unfold yZ; rw [h1]; exact h3
theorem aI3 {e : aL} (he : ESm2 e) (n k : aA) : (valS e n k).1.length <= 10010 := by
  have a1 := he.agent; have a2 := he.cookie; have a3 := he.query; have a4 := he.language; have a5 := he.host; have a6 := he.referer
  have b1 := aKx e.Agent k
  have b2 := aDn (aI2 he.cookie) k
  have b3 := aDn (aHy he.query) k
  have b4 : (aFX (aC3 e.Language) k).1.length <= 10 := by
    unfold aFX; cases hasS (aC3 e.Language) (kO k) <;> decide
  unfold valS
  have hb : ∀ (c d : Bool) (x y : aA × Bool), x.1.length <= 10010 -> y.1.length <= 10010 -> ((bif c then x else y) : aA × Bool).1.length <= 10010 := fun c d x y h1 h2 => by cases c; exact h2; exact h1
  have hs : ∀ s : aA, s.length <= 10010 -> (sme s).1.length <= 10010 := fun s h => h
  refine hb _ true _ _ (hb _ true _ _ (hs _ (by omega)) (aOy _)) ?_
  refine hb _ true _ _ (hb _ true _ _ (hs _ (by omega)) (aOy _)) ?_
  refine hb _ true _ _ (hb _ true _ _ (hs _ (by omega)) (hs _ (by omega))) ?_
  refine hb _ true _ _ (hb _ true _ _ (hs _ (by omega)) (by omega)) ?_
  refine hb _ true _ _ (hb _ true _ _ (hs _ (by omega)) (by omega)) ?_
  exact hb _ true _ _ (hb _ true _ _ (hs _ (by omega)) (by omega)) (aOy _)
theorem aI4 {val : aA -> aA -> aA × Bool} {M : Nat} (hv : ∀ n k, (val n k).1.length <= M) (s : aA) (hs : s.length <= M) : (refS val s).1.length <= M := by
  have hend : ∀ (n k o : aA) (len : Nat) (r : aA), o.length <= M -> (endS val n k o len r).1.length <= M := fun n k o len r ho => by
    unfold endS
    cases aY r [41] with
    | false => exact aOy _
    | true =>
      rw [aNP]
      cases (val n k).2 with
      | true => exact hv n k
      | false => exact ho
  have hoth : ∀ (n k : aA) (len : Nat) (r : aA), r.length <= M -> (othS val n k len r).1.length <= M := fun n k len r hr => by
    unfold othS
    have d2 : (r.drop 2).length <= M := by rw [aOA]; omega
    have d1 : (r.drop 1).length <= M := by rw [aOA]; omega
    cases aY r [124, 39] with
    | true =>
      rw [aNP]
      cases (cutC 39 (r.drop 2)).2.2 with
      | true => exact hend _ _ _ _ _ (Nat.le_trans (wK ..).1 d2)
      | false => exact aOy _
    | false =>
      rw [aNQ]
      cases aY r [124] with
      | true => exact hend _ _ _ _ _ (by have := nM (nB oBad) (r.drop 1); omega)
      | false => exact hend _ _ _ _ _ (aOy _)
  unfold refS
  have t1 := nM letB (s.drop 2)
  rw [aOA] at t1
  cases (aY s [36, 40] && !(tw letB (s.drop 2) == ([] : aA))) with
  | false => exact aOy _
  | true =>
    rw [aNP]
    cases aY (dw letB (s.drop 2)) [123] with
    | false => exact hoth _ _ _ _ (by omega)
    | true =>
      rw [aNP]
      cases (!(tw (nB kBad) ((dw letB (s.drop 2)).drop 1) == ([] : aA)) && aY (dw (nB kBad) ((dw letB (s.drop 2)).drop 1)) [125]) with
      | false => exact aOy _
      | true =>
        refine hoth _ _ _ _ ?_
        have t2 := nM (nB kBad) ((dw letB (s.drop 2)).drop 1)
        rw [aOA] at t2 ⊢
        omega
theorem aI5 {e : aL} (he : ESm2 e) {s : aA} (hs : s.length <= maxLen) : (refV e s).1.length <= maxLen :=
  aI4 (M := maxLen) (fun n k => Nat.le_trans (aI3 he n k) (by unfold maxLen; omega)) s hs
noncomputable def valX (e : aL) (x : aB) : aA := bif x.Kind == 2 then x.Text else bif x.Kind == 3 then (refV e x.Text).1 else numW x.N
theorem aFe {x : aB} (h : iY x = true) (h2 : (x.Kind == 2) = false) (h3 : (x.Kind == 3) = false) : (x.Kind == 1) = true := by
  unfold iY at h
  rw [h2, h3] at h
  simpa using h
theorem aFf {e : aL} (he : ESm2 e) {x : aB} (hs : iY x = true) (hl : p6 x = true) (hx : KOk x) : (valX e x).length <= maxLen := by
  unfold valX
  cases h2 : x.Kind == 2 with
  | true => exact hx.text
  | false =>
    cases h3 : x.Kind == 3 with
    | true => exact aI5 he hx.text
    | false => have := aI1 (xX hl (aFe hs h2 h3)); unfold maxLen; rw [aNQ, aNQ]; omega
theorem wS {e : aL} (he : ESm2 e) {x : aB} (hs : iY x = true) (hl : p6 x = true) (hx : KOk x) : kM e x = some (valX e x) := by
  unfold kM valX
  cases h2 : x.Kind == 2 with
  | true => rfl
  | false =>
    cases h3 : x.Kind == 3 with
    | true => rw [aNQ, aNP, tG he.toESm hx.text]; rfl
    | false => rw [aNQ, aNQ, show qA x = _ from aDm (n := 999999) hl (aFe hs h2 h3)]; rfl
def agP (a b : aA) : Int := bif (sgn a).2 == 0 && (sgn b).2 == 0 then (bif decide ((sgn a).1 < (sgn b).1) then -1 else bif decide ((sgn a).1 > (sgn b).1) then 1 else 0) else Lib.compareBytes a b
theorem aGa {a b : aA} (ha : a.length <= maxLen) (hb : b.length <= maxLen) : l0 a b = some (agP a b) := by
  unfold l0 agP
  rw [sI ha, sI hb, aOp, aOp, show ((sgn a).2 != 0) = !((sgn a).2 == 0) from rfl, show ((sgn b).2 != 0) = !((sgn b).2 == 0) from rfl]
  cases (sgn a).2 == 0 <;> cases (sgn b).2 == 0 <;> try rfl
  cases decide ((sgn a).1 < (sgn b).1) <;> cases decide ((sgn a).1 > (sgn b).1) <;> rfl
inductive WV : aB -> Prop
  | leaf (x : aB) (h1 : iY x = true) (h2 : p6 x = true) : WV x
  | sign (s : aA) (a b : aB) (hs : fR s = true) (ha : iY a = true) (ha' : p6 a = true) (hb : iY b = true) (hb' : p6 b = true) : WV (aB.mk 7 0 [] s [a, b])
  | no (a : aB) (ha : wl a = true) : WV (aB.mk 4 0 [] [] [a])
  | row (k : Int) (l : List aB) (hk : k = 5 ∨ k = 6) (hl : 2 <= l.length) (h : ∀ x, x ∈ l -> wl x = true) : WV (aB.mk k 0 [] [] l)
theorem aEn {x : aB} (h : wl x = true) (hs : iY x = true) : p6 x = true := by
  rw [aDh, hs, aNP] at h; exact h
theorem zO {x : aB} (h : wl x = true) : WV x := by
  cases hs : iY x with
  | true => exact .leaf x hs (aEn h hs)
  | false =>
    rw [aDh, hs, aNQ] at h
    obtain ⟨k, n, t, s, kids⟩ := x
    simp only [aOz, beq_iff_eq] at h
    obtain ⟨⟨⟨h1, h2⟩, h3⟩, h4⟩ := h
    subst h1; subst h2
    rw [uT, List.all_eq_true] at h3
    unfold aDg at h4
    dsimp only at h4
    cases h7 : k == 7 with
    | true =>
      rw [h7, aNP] at h4
      simp only [aOz, Nat.beq_eq, List.all_eq_true] at h4
      obtain ⟨⟨g1, g2⟩, g3⟩ := h4
      match kids, g2 with
      | [a, b], _ =>
        have ha := g3 a (by simp); have hb := g3 b (by simp)
        rw [beq_iff_eq.1 h7]
        exact .sign s a b g1 ha (aEn (h3 a (by simp)) ha) hb (aEn (h3 b (by simp)) hb)
    | false =>
      rw [h7, aNQ] at h4
      cases h5 : k == 4 with
      | true =>
        rw [h5, aNP] at h4
        simp only [aOz, Nat.beq_eq, beq_iff_eq] at h4
        obtain ⟨g1, g2⟩ := h4
        match kids, g2 with
        | [a], _ =>
          rw [beq_iff_eq.1 h5, g1]
          exact .no a (h3 a (by simp))
      | false =>
        rw [h5, aNQ] at h4
        cases h6 : (k == 5 || k == 6) with
        | true =>
          rw [h6, aNP] at h4
          simp only [aOz, Nat.ble_eq, beq_iff_eq] at h4
          rw [h4.1]
          exact .row k kids (by simpa using h6) h4.2 h3
        | false => rw [h6] at h4; cases h4
def sgV (g : aA) (n : Int) : Bool := bif g == ([61, 61] : aA) then n == 0 else bif g == ([33, 61] : aA) then n != 0 else bif g == ([60] : aA) then decide (n < 0) else
  bif g == ([62] : aA) then decide (n > 0) else bif g == ([60, 61] : aA) then decide (n <= 0) else decide (n ≥ 0)
def wTrue : aA := [116, 114, 117, 101]
mutual
noncomputable def hold (e : aL) : aB -> Bool
  | ⟨k, n, t, s, kids⟩ => bif k == 1 then n != 0 else bif k == 4 then !(anyH e kids) else bif k == 5 then allH e kids else bif k == 6 then anyH e kids else
    bif k == 7 then sgV s (agP (valX e (kids.headD fQ)) (valX e ((kids.drop 1).headD fQ))) else valX e ⟨k, n, t, s, kids⟩ == wTrue
noncomputable def anyH (e : aL) : List aB -> Bool
  | [] => false
  | x :: l => hold e x || anyH e l
noncomputable def allH (e : aL) : List aB -> Bool
  | [] => true
  | x :: l => hold e x && allH e l
end
theorem aKy (e : aL) (x : aB) : hold e x = bif x.Kind == 1 then x.N != 0 else bif x.Kind == 4 then !(anyH e x.Kids) else bif x.Kind == 5 then allH e x.Kids else bif x.Kind == 6 then anyH e x.Kids else
    bif x.Kind == 7 then sgV x.Sign (agP (valX e (x.Kids.headD fQ)) (valX e ((x.Kids.drop 1).headD fQ))) else valX e x == wTrue := by cases x; rw [hold]
theorem aFg (e : aL) : ∀ (l : List aB), anyH e l = l.any (hold e)
  | [] => by rw [anyH]; rfl
  | x :: l => by rw [anyH, aFg e l]; rfl
theorem aB7 (e : aL) : ∀ (l : List aB), allH e l = l.all (hold e)
  | [] => by rw [allH]; rfl
  | x :: l => by rw [allH, aB7 e l]; rfl
theorem vR {k n : Int} {t s : aA} {l : List aB} {m : Nat} (h : sz (aB.mk k n t s l) <= m + 1) {x : aB} (hx : x ∈ l) : sz x <= m := by
  have := sN hx
  rw [sz] at h; omega
theorem aKz {l : List aB} {p : aB -> Bool} : (!(l.any fun k => !p k)) = l.all p := by
  rw [List.all_eq_not_any_not]
theorem aHz {x : aB} (hs : iY x = true) : (x.Kind == 4) = false /\ (x.Kind == 5) = false /\ (x.Kind == 6) = false /\ (x.Kind == 7) = false := by
  unfold iY at hs
  simp only [Bool.or_eq_true, beq_iff_eq] at hs
  rcases hs with (h | h) | h <;> rw [h] <;> exact ⟨rfl, rfl, rfl, rfl⟩
theorem aGb {e : aL} (he : ESm2 e) : ∀ (n : Nat) (x : aB), sz x <= n -> wl x = true -> KOk x -> iO n e x = some (hold e x) := by
  intro n
  induction n with
  | zero => intro x h; have := pV x; omega
  | succ n ih =>
    intro x h hw hx
    show nK (iO n) e x = _
    unfold nK
    rw [aKy]
    cases zO hw with
    | leaf _ h1 h2 =>
      obtain ⟨k4, k5, k6, k7⟩ := aHz h1
      rw [k4, k5, k6, k7, wS he h1 h2 hx]
      cases x.Kind == 1 <;> rfl
    | sign s a b hs ha ha' hb hb' =>
      have ka := hx.at_.2 a (by simp); have kb := hx.at_.2 b (by simp)
      show ((kM e a).bind fun x6 => (some b).bind fun x7 => (kM e x7).bind fun x8 => (l0 x6 x8).bind fun x9 => _) = some (sgV s (agP (valX e a) (valX e b)))
      rw [wS he ha ha' ka, aOp, aOp, wS he hb hb' kb, aOp, aGa (aFf he ha ha' ka) (aFf he hb hb' kb), aOp]
      unfold sgV
      dsimp only
      cases s == ([61, 61] : aA) with
      | true => rfl
      | false =>
        cases s == ([33, 61] : aA) with
        | true => rfl
        | false =>
          cases s == ([60] : aA) with
          | true => rfl
          | false =>
            cases s == ([62] : aA) with
            | true => rfl
            | false =>
              cases s == ([60, 61] : aA) <;> rfl
    | no a ha =>
      have ka := hx.at_.2 a (by simp)
      show ((iN (iO n) a e).bind fun x2 => some x2) = some (!(anyH e [a]))
      unfold iN
      rw [ih a (vR h (by simp)) ha ka, anyH, anyH, Bool.or_false]; rfl
    | row k l hk hl hall =>
      have kk := hx.at_
      rcases hk with rfl | rfl
      · show ((aM l (fun x0 => iN (iO n) x0 e)).bind fun x3 => some (!x3)) = some (allH e l)
        rw [aB2 (l := l) (fun k => !(hold e k)) (fun k hm => by unfold iN; rw [ih k (vR h hm) (hall k hm) (kk.2 k hm)]; rfl) kk.1, aB7, <- aKz]; rfl
      · show ((aM l (fun x0 => lZ (iO n) x0 e)).bind fun x4 => some x4) = some (anyH e l)
        rw [aB2 (l := l) (hold e) (fun k hm => by unfold lZ; rw [ih k (vR h hm) (hall k hm) (kk.2 k hm)]; rfl) kk.1, aFg]; rfl
def o4 (x : aB) : Bool := decide (sz x <= 60) && (wl x && decide (dp x <= 16))
theorem oM {x : aB} : o4 x = true ↔ sz x <= 60 /\ wl x = true /\ dp x <= 16 := by
  unfold o4; simp only [aOz, decide_eq_true_eq]
theorem tL {x : aB} (hx : KOk x) : lY x = some (o4 x) := by
  unfold lY o4
  rw [aJH, aOp]
  by_cases h : sz x <= 60
  · rw [decide_eq_true h, eU rfl, show yM x = _ from aHi 1000000 x (by omega) hx, aOp, aNP, aOI]
    cases wl x with
    | true => rw [eU rfl, aDe (by omega)]; rfl
    | false => rfl
  · rw [decide_eq_false h]; rfl
theorem aKA (n : Nat) : decide ((((mn61 n : Nat) : Int)) <= (60 : Int)) = decide (n <= 60) := by
  unfold mn61
  by_cases h : n <= 60
  · rw [if_pos h, decide_eq_true h, decide_eq_true (by omega)]
  · rw [if_neg h, decide_eq_false h]; rfl
theorem aHA {x : aB} (hx : KOk x) : g9 x = some (o4 x) := by
  unfold g9 o4
  rw [aEh hx, aOp, aKA]
  by_cases h : sz x <= 60
  · rw [decide_eq_true h, eU rfl, show mD x = _ from aIX 1000000 x (by omega) hx, aOp, aNP, aOI]
    cases hw : wl x with
    | true => rw [eU rfl, aE7 (by omega) (aJJ _ x (aOv _) hw)]; rfl
    | false => rfl
  · rw [decide_eq_false h]; rfl
noncomputable def aKB (e : aL) (x : aB) : Bool × Int := bif o4 x then (hold e x, 0) else (false, 1)
theorem aKC {e : aL} (he : ESm2 e) {x : aB} (hx : KOk x) : qB e x = some (aKB e x) := by
  unfold qB aKB
  rw [tL hx, aOp]
  cases h : o4 x with
  | false => rfl
  | true =>
    obtain ⟨h1, h2, h3⟩ := oM.1 h
    rw [show wH e x = _ from aGb he 1000000 x (by omega) h2 hx]; rfl
theorem aBe (s : aA) : ((parX s).2 ≠ 0 /\ (parX s).1 = fQ) ∨ (∃ x, parX s = (x, 0) /\ s.length <= 400 /\ (lexW s).2 = true /\ gB ((lexW s).1.length + 1) (lexW s).1 = x /\ x.Kind ≠ 0 /\ KOk x /\ o4 x = true) := by
  unfold parX
  by_cases h4 : s.length > 400
  · rw [decide_eq_true h4]; exact .inl ⟨(by decide : (2 : Int) ≠ 0), rfl⟩
  · rw [decide_eq_false h4, aNQ]
    have htok := aHt s.length s (aOv _) (by omega)
    have hcnt := zL s.length s (aOv _)
    generalize hx : gB ((lexW s).1.length + 1) (lexW s).1 = x
    cases hok : (lexW s).2 with
    | false => exact .inl ⟨(by decide : (50 : Int) ≠ 0), rfl⟩
    | true =>
      cases hk : x.Kind == 0 with
      | true => exact .inl ⟨(by decide : (50 : Int) ≠ 0), rfl⟩
      | false =>
        have hk' : x.Kind ≠ 0 := by simpa using hk
        have hf := aBc ((lexW s).1.length + 1) (lexW s).1 (by omega) htok (by rw [hx]; exact hk')
        rw [hx] at hf
        by_cases h6 : sz x <= 60
        · rw [decide_eq_true h6]
          by_cases h16 : dp x > 16
          · rw [decide_eq_true h16]; exact .inl ⟨(by decide : (5 : Int) ≠ 0), rfl⟩
          · rw [decide_eq_false h16]
            exact .inr ⟨x, rfl, by omega, rfl, rfl, hk', hf.2, oM.2 ⟨h6, hf.1, by omega⟩⟩
        · rw [decide_eq_false h6]; exact .inl ⟨(by decide : (4 : Int) ≠ 0), rfl⟩
noncomputable def aGc (e : aL) (s : aA) : Bool × Int := bif (parX s).2 == 0 then (hold e (parX s).1, 0) else (false, (parX s).2)
theorem aHB {e : aL} (he : ESm2 e) (s : aA) : nL e s = some (aGc e s) := by
  unfold nL aGc
  rw [xD, aOp]
  rcases aBe s with ⟨h1, h2⟩ | ⟨x, h1, _, _, _, _, h2, h3⟩
  · have : ((parX s).2 == 0) = false := by simpa using h1
    rw [show ((parX s).2 != (0 : Int)) = !((parX s).2 == 0) from rfl, this]; rfl
  · rw [h1]
    show ((qB e x).bind fun x2 => some (x2.1, x2.2)) = _
    rw [aKC he h2]
    unfold aKB; rw [h3]; rfl
theorem aI6 (n k : Nat) : imin ((n : Nat) : Int) (k : Int) = ((min n k : Nat) : Int) := by
  unfold imin
  split <;> omega
theorem cut_eq {α : Type} (s : List α) (k : Nat) : slc s 0 (imin (s.length : Int) (k : Int)) = some (s.take k) := by
  rw [aI6, mF _ _ (Nat.min_le_left ..)]
  congr 1
  rw [List.take_eq_take_iff]; omega
def lexF : Nat -> aA -> List aA × Bool
  | 0, _ => ([], false)
  | _ + 1, [] => ([], true)
  | n + 1, c :: t => bif blk c then lexF n t else bif Nat.beq (fP (c :: t)) 0 then ([], false) else
      ((c :: t).take (fP (c :: t)) :: (lexF n ((c :: t).drop (fP (c :: t)))).1, (lexF n ((c :: t).drop (fP (c :: t)))).2)
theorem aHC : ∀ (n : Nat) (s : aA), s.length < n -> lexF n s = lexW s := by
  intro n
  induction n with
  | zero => intro s h; omega
  | succ n ih =>
    intro s h
    cases s with
    | nil => rw [qX]; rfl
    | cons c t =>
      rw [aOq] at h
      rw [lexF]
      cases hb : blk c with
      | true => rw [aNP, ih t (by omega), aBU t hb]
      | false =>
        rw [aNQ]
        by_cases h0 : fP (c :: t) = 0
        · rw [aBV hb h0, h0]; rfl
        · have : Nat.beq (fP (c :: t)) 0 = false := by rw [<- aOO, Nat.beq_eq]; exact h0
          rw [zA hb h0, this, aNQ, ih _ (by rw [aOA, aOq]; omega)]
def aHD : aA := [49, 61, 61, 49, 32, 38, 32, 33, 40, 39, 97, 39, 62, 39, 98, 39, 41]
def aHE : aA := [49, 48, 60, 57]
def numX (n : Int) : aB := aB.mk 1 n [] [] []
def txtX (s : aA) : aB := aB.mk 2 0 s [] []
def aKD : aB := aB.mk 5 0 [] [] [aB.mk 7 0 [] [61, 61] [numX 1, numX 1], aB.mk 4 0 [] [] [aB.mk 7 0 [] [62] [txtX [97], txtX [98]]]]
def aKE : aB := aB.mk 7 0 [] [60] [numX 10, numX 9]
def aWords : List aA := [[49], [61, 61], [49], [38], [33], [40], [39, 97, 39], [62], [39, 98, 39], [41]]
def bWords : List aA := [[49, 48], [60], [57]]
theorem aLex : lexW aHD = (aWords, true) := by rw [<- aHC 18 aHD (by decide)]; kernel_rfl
theorem bLex : lexW aHE = (bWords, true) := by rw [<- aHC 5 aHE (by decide)]; kernel_rfl
theorem aPar : parX aHD = (aKD, 0) := by
  unfold parX; rw [aLex]; kernel_rfl
theorem bPar : parX aHE = (aKE, 0) := by
  unfold parX; rw [bLex]; kernel_rfl
theorem aKF {n : Nat} (h : n < 10) : Lib.decDigits n = [UInt8.ofNat (48 + n)] := by rw [Lib.decDigits, dif_pos h]
theorem numW1 : numW 1 = [49] := by
  show Lib.decDigits 1 = _
  rw [aKF (by decide)]; rfl
theorem numW9 : numW 9 = [57] := by
  show Lib.decDigits 9 = _
  rw [aKF (by decide)]; rfl
theorem numW10 : numW 10 = [49, 48] := by
  show Lib.decDigits 10 = _
  rw [Lib.decDigits, dif_neg (by decide), aKF (by decide)]; rfl
theorem aB8 (e : aL) (n : Int) : valX e (numX n) = numW n := rfl
theorem aFh (e : aL) (s : aA) : valX e (txtX s) = s := rfl
theorem zP (e : aL) (g : aA) (a b : aB) : hold e (aB.mk 7 0 [] g [a, b]) = sgV g (agP (valX e a) (valX e b)) := by rw [hold]; rfl
theorem aI7 (e : aL) (a : aB) : hold e (aB.mk 4 0 [] [] [a]) = !(hold e a) := by
  rw [hold]
  show (!(anyH e [a])) = _
  rw [anyH, anyH, Bool.or_false]
theorem aI8 (e : aL) (l : List aB) : hold e (aB.mk 5 0 [] [] l) = l.all (hold e) := by
  rw [hold, <- aB7]; rfl
theorem aJK : ESm2 E0 := { agent := by decide, cookie := by decide, query := by decide, language := by decide, host := by decide, referer := by decide }
theorem aI9 : fN = some true := by
  unfold fN
  rw [show (aL.mk ([] : aA) ([] : aA) ([] : aA) ([] : aA) ([] : aA) ([] : aA)) = E0 from rfl]
  have h1 : aGc E0 aHD = (true, 0) := by
    unfold aGc
    rw [aPar]
    show (hold E0 aKD, (0 : Int)) = _
    unfold aKD
    rw [aI8, List.all_cons, List.all_cons, List.all_nil, aI7, zP, zP, aB8, aFh, aFh, numW1]
    kernel_rfl
  have h2 : aGc E0 aHE = (false, 0) := by
    unfold aGc
    rw [bPar]
    show (hold E0 aKE, (0 : Int)) = _
    unfold aKE
    rw [zP, aB8, aB8, numW9, numW10]
    kernel_rfl
  rw [show nL E0 ([49, 61, 61, 49, 32, 38, 32, 33, 40, 39, 97, 39, 62, 39, 98, 39, 41] : aA) = some (true, 0) from (aHB aJK aHD).trans (congrArg some h1),
    show nL E0 ([49, 48, 60, 57] : aA) = some (false, 0) from (aHB aJK aHE).trans (congrArg some h2)]
  rfl
theorem aKG {any : List aA -> Res} {m : Nat} {W r : List aA} {x : aB} (h : any (W ++ [41] :: r) = some (x, [41] :: r)) : pOne any (m + 1) ([40] :: (W ++ [41] :: r)) = some (x, r) := by
  rw [mI, if_neg (by decide), if_pos rfl, h]
  dsimp only
  rw [if_pos rfl]
def fin (x : aB) : aB × Int := bif !decide (sz x <= 60) then (fQ, 4) else bif decide (dp x > 16) then (fQ, 5) else (x, 0)
structure Rd (s : aA) (x : aB) : Prop where
  par : parX s = (x, 0)
  len : s.length <= 400
  lex : (lexW s).2 = true
  cnt : (lexW s).1.length <= s.length
  ok : KOk x
  right : o4 x = true
  any : ∀ n r, s.length < n -> (r = [] ∨ ∃ t, r = [41] :: t) -> pAny n ((lexW s).1 ++ r) = some (x, r)
theorem Rd.one {s : aA} {x : aB} (h : Rd s x) (n m : Nat) (hn : s.length < n) (r : List aA) : pOne (pAny n) (m + 1) ([40] :: ((lexW s).1 ++ [41] :: r)) = some (x, r) :=
  aKG (h.any n _ hn (.inr ⟨r, rfl⟩))
section
variable {a b : aA} {x y : aB} (ha : Rd a x) (hb : Rd b y)
include ha
include hb
end
def quo (o : aA) : aA := 39 :: (o ++ [39])
theorem aHF {x : aB} (h1 : iY x = true) (h2 : p6 x = true) : wl x = true := by rw [aDh, h1, aNP, h2]
theorem kok_wf : ∀ (n : Nat) (x : aB), sz x <= n -> Wf (aB.avR x) -> KOk x := by
  intro n
  induction n with
  | zero => intro x h; have := pV x; omega
  | succ n ih =>
    intro x h hw
    rw [aB.av_eq] at hw
    have ht : Wf (AV.str x.Text) := Wf.aggMem (cs := aB.cells x) hw (by unfold aB.cells; simp)
    have hk : Wf (AV.list 5 (x.Kids.map aB.avR)) := Wf.aggMem (cs := aB.cells x) hw (by unfold aB.cells; simp)
    have hl := hk.listLen
    rw [List.length_map] at hl
    refine .mk x hl (fun k hm => ?_) ht.strLen
    have hs := aDd hm
    refine ih k (by omega) ?_
    rw [aB.av_eq]
    exact hk.listAgg (List.mem_map.2 ⟨k, hm, aB.av_eq k⟩)
theorem kok_of {x : aB} (h : Wf (.agg (aB.cells x))) : KOk x := kok_wf _ x (aOv _) (by rw [aB.av_eq]; exact h)
theorem aFi {n : Nat} (h : n <= 1099511627776) : (Lib.decDigits n).length <= 13 := by
  have key : ∀ (k n : Nat), n < 10 ^ (k + 1) -> (Lib.decDigits n).length <= k + 1 := by
    intro k
    induction k with
    | zero => intro n hn; rw [aCR (by omega)]; simp
    | succ k ih =>
      intro n hn
      by_cases h : n < 10
      · rw [aCR h]; simp
      · rw [aGM h, aOr]
        have := ih (n / 10) (by rw [Nat.pow_succ] at hn; omega)
        simp; omega
  exact key 12 n (by omega)
theorem numW13 {n : Int} (h : -1099511627776 <= n /\ n <= 1099511627776) : (numW n).length <= 14 := by
  unfold numW
  cases decide (n < 0) with
  | true => have := aFi (n := (-n).toNat) (by omega); rw [aNP, aOq]; omega
  | false => have := aFi (n := n.toNat) (by omega); rw [aNQ]; omega
def rowB (x : aB) : Bool := x.Kind == 5 || x.Kind == 6
def aGd (b : Bool) (s : aA) : aA := bif b then 40 :: (s ++ [41]) else s
def sepX (x : aB) : aA := bif x.Kind == 5 then [38] else bif x.Kind == 6 then [124] else x.Sign
mutual
def wr : aB -> aA
  | ⟨k, n, t, s, kids⟩ => bif k == 1 then numW n else bif k == 2 then 39 :: (t ++ [39]) else bif k == 3 then t else bif k == 4 then 33 :: (wrs kids).headD [] else
    Lib.join (wrs kids) (bif k == 5 then [38] else bif k == 6 then [124] else s)
def wrs : List aB -> List aA
  | [] => []
  | x :: l => aGd (rowB x) (wr x) :: wrs l
end
theorem aAE (x : aB) : wr x = bif x.Kind == 1 then numW x.N else bif x.Kind == 2 then 39 :: (x.Text ++ [39]) else bif x.Kind == 3 then x.Text else bif x.Kind == 4 then 33 :: (wrs x.Kids).headD [] else Lib.join (wrs x.Kids) (sepX x) := by
  cases x; rw [wr]; rfl
def wrp (x : aB) : aA := aGd (rowB x) (wr x)
theorem p7 : ∀ (l : List aB), wrs l = l.map wrp
  | [] => by rw [wrs]; rfl
  | x :: l => by rw [wrs, p7 l]; rfl
mutual
def tl : aB -> Nat
  | ⟨_, _, t, _, kids⟩ => t.length + tls kids
def tls : List aB -> Nat
  | [] => 0
  | x :: l => tl x + tls l
end
theorem aDo (x : aB) : tl x = x.Text.length + tls x.Kids := by cases x; rw [tl]
theorem aEo : tls [] = 0 := by rw [tls]
theorem q6 (x : aB) (l : List aB) : tls (x :: l) = tl x + tls l := by rw [tls]
theorem aHG {x : aB} : ∀ {l : List aB}, x ∈ l -> tl x <= tls l
  | y :: l, h => by
    rw [q6]
    rcases List.mem_cons.1 h with rfl | h
    · omega
    · have := aHG h; omega
theorem sO (b : Bool) (s : aA) : (aGd b s).length <= s.length + 2 := by
  unfold aGd; cases b <;> simp
theorem xE (g : aA) (hg : g.length <= 2) : ∀ (l : List aB), (∀ x, x ∈ l -> (wr x).length + 4 <= tl x + 20 * sz x) -> (Lib.joinTail g (l.map wrp)).length <= tls l + 20 * szs l
  | [], _ => by simp [Lib.joinTail]
  | x :: l, h => by
    have h1 := xE g hg l fun y hy => h y (aOu _ hy)
    have h2 := h x (aOt ..)
    have h3 := sO (rowB x) (wr x)
    unfold Lib.joinTail at h1 ⊢
    rw [aOJ, aOJ, List.flatten_cons, aOr, aOr, q6, mJ]
    have : (wrp x).length <= (wr x).length + 2 := h3
    omega
theorem vS (g : aA) (hg : g.length <= 2) (l : List aB) (h : ∀ x, x ∈ l -> (wr x).length + 4 <= tl x + 20 * sz x) : (Lib.join (l.map wrp) g).length <= tls l + 20 * szs l := by
  cases l with
  | nil => simp [Lib.join_nil]
  | cons x l =>
    have h1 := xE g hg l fun y hy => h y (aOu _ hy)
    have h2 := h x (aOt ..)
    have h3 : (wrp x).length <= (wr x).length + 2 := sO (rowB x) (wr x)
    rw [aOJ, Lib.join_cons, aOr, q6, mJ]
    omega
theorem aB9 {s : aA} (h : fR s = true) : s.length <= 2 := by
  unfold fR at h
  simp only [Bool.or_eq_true, beq_iff_eq] at h
  rcases h with ((((h | h) | h) | h) | h) | h <;> rw [h] <;> decide
theorem aEp {x : aB} (hs : iY x = true) : wr x = bif x.Kind == 1 then numW x.N else bif x.Kind == 2 then 39 :: (x.Text ++ [39]) else x.Text := by
  rw [aAE]
  unfold iY at hs
  cases h1 : x.Kind == 1 with
  | true => rfl
  | false =>
    cases h2 : x.Kind == 2 with
    | true => rfl
    | false =>
      have : (x.Kind == 3) = true := by rw [h1, h2] at hs; simpa using hs
      rw [this]; rfl
theorem zQ {x : aB} (hs : iY x = true) (hl : p6 x = true) : (wr x).length + 4 <= tl x + 20 * sz x := by
  have h0 := pV x
  rw [aEp hs, aDo]
  cases h1 : x.Kind == 1 with
  | true => have := numW13 (xX hl h1); rw [aNP]; omega
  | false =>
    cases h2 : x.Kind == 2 with
    | true => rw [aNQ, aNP]; simp; omega
    | false => rw [aNQ, aNQ]; omega
theorem aHH : ∀ (n : Nat) (x : aB), sz x <= n -> wl x = true -> (wr x).length + 4 <= tl x + 20 * sz x := by
  intro n
  induction n with
  | zero => intro x h; have := pV x; omega
  | succ n ih =>
    intro x h hw
    cases zO hw with
    | leaf _ h1 h2 => exact zQ h1 h2
    | sign s a b hs ha ha' hb hb' =>
      have := vS s (aB9 hs) [a, b] (fun x hx => by
        rcases List.mem_cons.1 hx with rfl | hx
        · exact zQ ha ha'
        · rw [List.mem_singleton.1 hx]; exact zQ hb hb')
      rw [aAE, aDo, sM, p7]
      show (Lib.join ([a, b].map wrp) s).length + 4 <= ([] : aA).length + tls [a, b] + 20 * (1 + szs [a, b])
      simp only [aOB]; omega
    | no a ha =>
      have := ih a (vR h (by simp)) ha
      have h3 : (wrp a).length <= (wr a).length + 2 := sO (rowB a) (wr a)
      rw [aAE, aDo, sM, p7]
      show (33 :: wrp a).length + 4 <= ([] : aA).length + tls [a] + 20 * (1 + szs [a])
      rw [q6, aEo, mJ, wO, aOq]
      simp only [aOB]; omega
    | row k l hk hl hall =>
      have key : ∀ g : aA, g.length <= 2 -> (Lib.join (l.map wrp) g).length <= tls l + 20 * szs l := fun g hg => vS g hg l fun x hx => ih x (vR h hx) (hall x hx)
      rw [aAE, aDo, sM, p7]
      rcases hk with rfl | rfl
      · have := key [38] (by decide)
        show (Lib.join (l.map wrp) [38]).length + 4 <= ([] : aA).length + tls l + 20 * (1 + szs l)
        simp only [aOB]; omega
      · have := key [124] (by decide)
        show (Lib.join (l.map wrp) [124]).length + 4 <= ([] : aA).length + tls l + 20 * (1 + szs l)
        simp only [aOB]; omega
def Small (x : aB) : Prop := tl x <= 100000000 /\ sz x <= 60
theorem Small.len {x : aB} (h : Small x) (hw : wl x = true) : (wr x).length <= 200000000 := by
  have := aHH _ x (aOv _) hw
  have := h.1; have := h.2
  omega
theorem Small.kid {x k : aB} (h : Small x) (hk : k ∈ x.Kids) : Small k := by
  have := aHG hk
  have := aDd hk
  have h1 := h.1; have h2 := h.2
  rw [aDo] at h1
  exact ⟨by omega, by omega⟩
theorem aJa {x : aB} {g : aA} (h : Small x) (hg : g.length <= 2) (hw : ∀ k, k ∈ x.Kids -> wl k = true) : strings_Join (x.Kids.map wrp) g = some (Lib.join (x.Kids.map wrp) g) := by
  have h1 := h.1; have h2 := h.2
  rw [aDo] at h1
  rw [sM] at h2
  have h3 := vS g hg x.Kids fun k hk => aHH _ k (aOv _) (hw k hk)
  have h4 := nZ x.Kids
  unfold strings_Join
  refine d8 ⟨?_, ?_⟩
  · show (x.Kids.map wrp).length <= 140737488355328
    rw [List.length_map]; omega
  · show (Lib.join (x.Kids.map wrp) g).length <= 140737488355328
    omega
theorem ml2 {n : Nat} (h : n <= 1000000000) : n <= maxLen := by unfold maxLen; omega
theorem uU {x : aB} (h : wl x = true) : ∀ k, k ∈ x.Kids -> wl k = true := by
  cases zO h with
  | leaf _ h1 h2 => rw [(aDl h2).1]; intro k hk; cases hk
  | sign s a b hs ha ha' hb hb' =>
    intro k hk
    rcases List.mem_cons.1 hk with rfl | hk
    · exact aHF ha ha'
    · rw [List.mem_singleton.1 hk]; exact aHF hb hb'
  | no a ha => intro k hk; rw [List.mem_singleton.1 hk]; exact ha
  | row k l hk hl hall => exact hall
theorem aGe : ∀ (n : Nat) (x : aB), sz x <= n -> wl x = true -> Small x -> f0 n x = some (wr x) := by
  intro n
  induction n with
  | zero => intro x h; have := pV x; omega
  | succ n ih =>
    intro x h hw hx
    have hs2 := hx.2
    have hsz := sM x
    have hkl := nZ x.Kids
    have hloop : aR (gO (f0 n) x) (([] : List aA), (0 : Int)) = some (x.Kids.map wrp) := by
      have hf := aES wrp x.Kids []
      rw [List.nil_append] at hf
      rw [<- hf]
      refine lJ (body := gO (f0 n) x) x.Kids (fun i (a : List aA) => (a, (i : Int))) _ _ (fun i a => a.length = i) (fun i a k hk hi => ?_) (fun a _ => ?_) [] rfl
      · have hkm := aOx hk
        have hlt := aO hk
        have hks := aDd hkm
        have hkw := uU hw k hkm
        have hkS := hx.kid hkm
        have hkL := hkS.len hkw
        refine .inl ⟨_, rfl, ?_, by simp [hi]⟩
        unfold gO
        simp only [aX hlt, aNP, bV hk, aOp, ih k (by omega) hkw hkS, aJI]
        rw [bM hlt (by unfold maxLen; omega)]
        unfold wrp aGd rowB
        cases (k.Kind == 5 || k.Kind == 6) with
        | true =>
          rw [aNP, aNP, jG (ml2 (by simp; omega)), aOp, jG (ml2 (by simp; omega)), aOp, n9 (by simp; omega) (by decide)]; rfl
        | false =>
          rw [aNQ, aNQ, n9 (by simp; omega) (by decide)]; rfl
      · unfold gO
        simp only [bP, aNQ]
    have kj : ∀ g : aA, g.length <= 2 -> strings_Join (x.Kids.map wrp) g = some (Lib.join (x.Kids.map wrp) g) := fun g hg => aJa hx hg (uU hw)
    show gS (f0 n) x = _
    cases zO hw with
    | leaf _ h1 h2 =>
      have hlen := hx.len hw
      rw [aEp h1] at hlen ⊢
      cases k1 : x.Kind == 1 with
      | true => exact aDm h2 k1
      | false =>
        rw [k1] at hlen
        unfold gS
        rw [hloop, aOp, k1, aNQ, aNQ]
        cases k2 : x.Kind == 2 with
        | true =>
          rw [k2, aNQ, aNP] at hlen
          simp only [aOq, aOr] at hlen
          rw [aNP, aNP, jG (ml2 (by simp; omega)), aOp, jG (ml2 (by simp; omega))]; rfl
        | false =>
          have : (x.Kind == 3) = true := by unfold iY at h1; rw [k1, k2] at h1; simpa using h1
          rw [this]; rfl
    | sign s a b hs ha ha' hb hb' =>
      unfold gS
      rw [hloop, aAE, p7]
      show ((strings_Join ([a, b].map wrp) s).bind fun x20 => some x20) = some (Lib.join ([a, b].map wrp) s)
      rw [kj s (aB9 hs)]; rfl
    | no a ha =>
      have hl := (hx.kid (k := a) (by simp)).len ha
      have hp : (wrp a).length <= (wr a).length + 2 := sO (rowB a) (wr a)
      unfold gS
      rw [hloop, aAE, p7]
      show ((cat ([33] : aA) (wrp a)).bind fun x17 => some x17) = some (33 :: wrp a)
      rw [jG (ml2 (by simp; omega))]; rfl
    | row k l hk hl hall =>
      unfold gS
      rw [hloop, aAE, p7]
      rcases hk with rfl | rfl
      · show ((strings_Join (l.map wrp) [38]).bind fun x18 => some x18) = some (Lib.join (l.map wrp) [38])
        rw [kj [38] (by decide)]; rfl
      · show ((strings_Join (l.map wrp) [124]).bind fun x19 => some x19) = some (Lib.join (l.map wrp) [124])
        rw [kj [124] (by decide)]; rfl
def aHI (g : aA) (a : aA × Nat) (k : aB) : aA × Nat := (a.1 ++ (bif Nat.ble 1 a.2 then g else []) ++ wrp k, a.2 + 1)
theorem zR {n : Nat} {x k : aB} {g o : aA} {i : Nat} {body : (aA × Int) -> Option ((aA × Int) ⊕ aA)}
    (hb : ∀ o (i : Int), body (o, i) = bif (decide (i < ((x.Kids).length : Int))) then
      (idx (x.Kids) i).bind fun x29 =>
      bif (decide (i > (0 : Int))) then
        (cat o g).bind fun x30 =>
        (bG x29).bind fun x31 =>
        bif x31 then
          (cat x30 ([40] : aA)).bind fun x32 =>
          (aQ n x29).bind fun x33 =>
          (cat x32 x33).bind fun x34 =>
          (cat x34 ([41] : aA)).bind fun x35 =>
          some (.inl (x35, (IntKind.i64.wrap (i + (1 : Int)))))
        else
          (aQ n x29).bind fun x36 =>
          (cat x30 x36).bind fun x37 =>
          some (.inl (x37, (IntKind.i64.wrap (i + (1 : Int)))))
      else
        (bG x29).bind fun x38 =>
        bif x38 then
          (cat o ([40] : aA)).bind fun x39 =>
          (aQ n x29).bind fun x40 =>
          (cat x39 x40).bind fun x41 =>
          (cat x41 ([41] : aA)).bind fun x42 =>
          some (.inl (x42, (IntKind.i64.wrap (i + (1 : Int)))))
        else
          (aQ n x29).bind fun x43 =>
          (cat o x43).bind fun x44 =>
          some (.inl (x44, (IntKind.i64.wrap (i + (1 : Int)))))
    else
      some (.inr o))
    (hk : x.Kids[i]? = some k) (hw : aQ n k = some (wr k)) (hg : g.length <= 2) (ho : o.length <= 500000000) (hl : (wr k).length <= 200000000) (hx : x.Kids.length <= 60) :
    body (o, (i : Int)) = some (.inl ((aHI g (o, i) k).1, ((i + 1 : Nat) : Int))) := by
  have hlt := aO hk
  rw [hb, aX hlt, aNP, bV hk, aOp, bM hlt (by unfold maxLen; omega), aB0, hw]
  unfold aHI wrp aGd rowB
  have hi : decide ((i : Int) > (0 : Int)) = Nat.ble 1 i := by rw [aOE, decide_eq_true_eq, Nat.ble_eq]; omega
  rw [hi]
  cases Nat.ble 1 i <;> cases (k.Kind == 5 || k.Kind == 6) <;> simp only [aNP, aNQ, aOp]
  · rw [jG (ml2 (by omega))]; simp
  · rw [jG (ml2 (by rw [aOs]; omega)), aOp, jG (ml2 (by rw [aOr, aOs]; omega)), aOp, jG (ml2 (by rw [aOr, aOr, aOs, aOs]; omega))]; simp
  · rw [jG (ml2 (by omega)), aOp, jG (ml2 (by rw [aOr]; omega))]; simp
  · rw [jG (ml2 (by omega)), aOp, jG (ml2 (by rw [aOr, aOs]; omega)), aOp, jG (ml2 (by rw [aOr, aOr, aOs]; omega)), aOp, jG (ml2 (by rw [aOr, aOr, aOr, aOs, aOs]; omega))]; simp
theorem zS {n : Nat} {x : aB} {g : aA} {body : (aA × Int) -> Option ((aA × Int) ⊕ aA)}
    (hs : ∀ (i : Nat) (o : aA) (k : aB), x.Kids[i]? = some k -> o.length <= 500000000 -> body (o, (i : Int)) = some (.inl ((aHI g (o, i) k).1, ((i + 1 : Nat) : Int))))
    (hf : ∀ o, body (o, (x.Kids.length : Int)) = some (.inr o)) (hg : g.length <= 2) (hw : ∀ k, k ∈ x.Kids -> wl k = true) (hx : Small x) : aR body (([] : aA), (0 : Int)) = some (Lib.join (x.Kids.map wrp) g) := by
  have h1 := hx.1; have h2 := hx.2
  rw [aDo] at h1
  rw [sM] at h2
  have hpre : ∀ (l r : List aB), l ++ r = x.Kids -> (Lib.join (l.map wrp) g).length <= 200000000 := fun l r e => by
    have h3 := vS g hg l fun k hk => aHH _ k (aOv _) (hw k (by rw [<- e]; exact List.mem_append_left _ hk))
    have h4 : szs l + szs r = szs x.Kids := by rw [<- e, tI]
    have h5 : ∀ (a b : List aB), tls (a ++ b) = tls a + tls b := fun a b => by
      induction a with
      | nil => rw [aEo]; simp
      | cons y a ih => rw [aOD, q6, q6, ih]; omega
    have h6 : tls l + tls r = tls x.Kids := by rw [<- e, h5]
    omega
  have key : ∀ (r l : List aB), l ++ r = x.Kids -> aR body (Lib.join (l.map wrp) g, (l.length : Int)) = some (Lib.join (x.Kids.map wrp) g) := by
    intro r
    induction r with
    | nil =>
      intro l e
      rw [aOH] at e
      rw [aS, e, hf]
    | cons k r ih =>
      intro l e
      have hk : x.Kids[l.length]? = some k := by rw [<- e]; simp
      have hlen := hpre l (k :: r) e
      rw [aS, hs l.length _ k hk (by omega)]
      dsimp only
      have e2 : (aHI g (Lib.join (l.map wrp) g, l.length) k).1 = Lib.join ((l ++ [k]).map wrp) g := by
        unfold aHI
        dsimp only
        cases l with
        | nil => simp [Lib.join_nil, Lib.join_one, show Nat.ble 1 0 = false from rfl]
        | cons y l =>
          rw [List.map_append, aOJ, aOD, Lib.join_cons, Lib.join_cons]
          unfold Lib.joinTail
          rw [show Nat.ble 1 (y :: l).length = true from rfl, aNP]
          simp [aOK]
      have := ih (l ++ [k]) (by rw [aOK]; exact e)
      rw [aOr, aOs] at this
      rw [e2]; exact this
  exact key x.Kids [] rfl
theorem aHJ : ∀ (n : Nat) (x : aB), sz x <= n -> wl x = true -> Small x -> aQ n x = some (wr x) := by
  intro n
  induction n with
  | zero => intro x h; have := pV x; omega
  | succ n ih =>
    intro x h hw hx
    have hs2 := hx.2
    have hsz := sM x
    have hkl := nZ x.Kids
    have kid : ∀ (i : Nat) (k : aB), x.Kids[i]? = some k -> aQ n k = some (wr k) /\ (wr k).length <= 200000000 := fun i k hk => by
      have hm := aOx hk
      have := aDd hm
      exact ⟨ih k (by omega) (uU hw k hm) (hx.kid hm), (hx.kid hm).len (uU hw k hm)⟩
    have l2 : ∀ (_ : ([38] : aA).length <= 2), aR (fB (aQ n) x) (([] : aA), (0 : Int)) = some (Lib.join (x.Kids.map wrp) [38]) := fun hg => by
      refine zS (n := n) (g := [38]) (fun i o k hk ho => zR (n := n) (fun o i => rfl) hk (kid i k hk).1 hg ho (kid i k hk).2 (by omega)) (fun o => ?_) hg (uU hw) hx
      unfold fB
      simp only [bP, aNQ]
    have l3 : ∀ (_ : ([124] : aA).length <= 2), aR (fC (aQ n) x) (([] : aA), (0 : Int)) = some (Lib.join (x.Kids.map wrp) [124]) := fun hg => by
      refine zS (n := n) (g := [124]) (fun i o k hk ho => zR (n := n) (fun o i => rfl) hk (kid i k hk).1 hg ho (kid i k hk).2 (by omega)) (fun o => ?_) hg (uU hw) hx
      unfold fC
      simp only [bP, aNQ]
    have l4 : ∀ (_ : x.Sign.length <= 2), aR (fD (aQ n) x) (([] : aA), (0 : Int)) = some (Lib.join (x.Kids.map wrp) x.Sign) := fun hg => by
      refine zS (n := n) (g := x.Sign) (fun i o k hk ho => zR (n := n) (fun o i => rfl) hk (kid i k hk).1 hg ho (kid i k hk).2 (by omega)) (fun o => ?_) hg (uU hw) hx
      unfold fD
      simp only [bP, aNQ]
    show bZ (aQ n) x = _
    cases zO hw with
    | leaf _ h1 h2 =>
      have hlen := hx.len hw
      rw [aEp h1] at hlen ⊢
      cases k1 : x.Kind == 1 with
      | true => exact aHx h2 k1
      | false =>
        rw [k1] at hlen
        unfold bZ
        rw [k1, aNQ, aNQ, aNQ]
        cases k2 : x.Kind == 2 with
        | true =>
          rw [k2, aNQ, aNP] at hlen
          simp only [aOq, aOr] at hlen
          rw [aNP, aNP, jG (ml2 (by simp; omega)), aOp, jG (ml2 (by simp; omega))]; rfl
        | false =>
          have : (x.Kind == 3) = true := by unfold iY at h1; rw [k1, k2] at h1; simpa using h1
          rw [this]; rfl
    | sign s a b hs ha ha' hb hb' =>
      unfold bZ
      rw [l4 (aB9 hs), aAE, p7]; rfl
    | no a ha =>
      have hl := (hx.kid (k := a) (by simp)).len ha
      have hp : (wrp a).length <= (wr a).length + 2 := sO (rowB a) (wr a)
      unfold bZ
      rw [l4 (aOy _), aAE, p7]
      show ((cat ([33] : aA) (Lib.join ([a].map wrp) [])).bind fun x85 => some x85) = some (33 :: wrp a)
      rw [aOJ, List.map_nil, Lib.join_one, jG (ml2 (by simp; omega))]; rfl
    | row k l hk hl hall =>
      unfold bZ
      rw [aAE, p7]
      rcases hk with rfl | rfl
      · rw [l2 (by decide)]; rfl
      · rw [l3 (by decide)]; rfl
theorem aDp {α : Type} : ∀ (l : List α), j8 (α := α) (β := Unit) (ρ := Bool) (fun _ _ => .inl ()) (fun _ => true) l () = true
  | [] => rfl
  | x :: l => by rw [kN]; exact aDp l
theorem aHK : ∀ (n : Nat) (x : aB), sz x <= n -> KOk x -> c6 n x x = some true := by
  intro n
  induction n with
  | zero => intro x h; have := pV x; omega
  | succ n ih =>
    intro x h hx
    have hloop : aR (dQ (c6 n) x x) (0 : Int) = some true := by
      rw [<- aDp x.Kids]
      refine lJ (body := dQ (c6 n) x x) x.Kids (fun i (_ : Unit) => (i : Int)) _ _ (fun _ _ => True) (fun i a k hk _ => ?_) (fun a _ => ?_) () trivial
      · have hm := aOx hk
        have hs := aDd hm
        refine .inl ⟨_, rfl, ?_, trivial⟩
        unfold dQ
        simp only [aX (aO hk), aNP, bV hk, aOp, ih k (by omega) (hx.at_.2 k hm), aOC, aNQ]
        rw [bM (aO hk) hx.at_.1]
      · unfold dQ
        simp only [bP, aNQ]
    show gL (c6 n) x x = _
    unfold gL
    have h1 : (x.Kind != x.Kind) = false := by simp
    have h2 : (x.N != x.N) = false := by simp
    have h3 : (x.Text == x.Text) = true := by simp
    have h4 : (x.Sign == x.Sign) = true := by simp
    have h5 : ((((x.Kids).length : Nat) : Int) != (((x.Kids).length : Nat) : Int)) = false := by simp
    rw [h1, h2, h3, h4, h5]
    exact hloop
theorem aKH : KOk fQ := .mk _ (aOy _) (fun k hk => by cases hk) (aOy _)
theorem par_ok (s : aA) : KOk (parX s).1 /\ sz (parX s).1 <= 60 := by
  rcases aBe s with ⟨_, h⟩ | ⟨x, h, _, _, _, _, h1, h2⟩
  · rw [h]; exact ⟨aKH, by decide⟩
  · rw [h]; exact ⟨h1, (oM.1 h2).1⟩
def aHL (x : aB) : aA × Int := bif o4 x then (wr x, 0) else ([], 1)
theorem aJb {x : aB} (hx : KOk x) (ht : tl x <= 100000000) : oK x = some (aHL x) := by
  unfold oK aHL
  rw [tL hx, aOp]
  cases h : o4 x with
  | false => rfl
  | true =>
    obtain ⟨h1, h2, h3⟩ := oM.1 h
    rw [show qA x = _ from aGe 1000000 x (by omega) h2 ⟨ht, h1⟩]; rfl
theorem aAF (x : aB) (s : aA) (hx : KOk x) (ht : tl x <= 100000000) : eT x s = some true := by
  unfold eT
  rw [show (410 : Int) = ((410 : Nat) : Int) from rfl, cut_eq, aOp, xD, aOp, aEm, aOp]
  generalize s.take 410 = s
  obtain ⟨p1, p2⟩ := par_ok s
  rw [show mE (parX s).1 (parX s).1 = _ from aHK 1000000 _ (by omega) p1, aOp]
  have he : ((parX s).2 != (parX s).2) = false := by simp
  rw [he, aI9]
  show ((oK x).bind fun x6 => _) = _
  rw [aJb hx ht, aOp, aEh hx, aOp, aHv, Bool.not_not]
  unfold aHL
  by_cases h6 : sz x <= 60
  · rw [decide_eq_true h6, eU rfl, aHA hx, aOp, tL hx]
    cases hr : o4 x with
    | false => rfl
    | true =>
      show ((f6 true (jD x)).bind fun x11 => some (wr x == x11)) = _
      rw [eU rfl, show jD x = _ from aHJ 1000000 x (by omega) (oM.1 hr).2.1 ⟨ht, h6⟩, aOp]
      simp
  · have : o4 x = false := by
      cases hr : o4 x with
      | false => rfl
      | true => exact absurd (oM.1 hr).1 h6
    rw [decide_eq_false h6, tL hx, this]; rfl
theorem aHM : ∀ (l : List aB), tls l = (l.map tl).sum
  | [] => by rw [aEo]; rfl
  | x :: l => by rw [q6, aOJ, List.sum_cons, aHM l]
theorem tl_le (a : Int × (Int × (aA × (aA × (List aB × Unit))))) : tl (aB.mk a.1 a.2.1 a.2.2.1 a.2.2.2.1 a.2.2.2.2.1) <= 0 + (0 + (List.length a.2.2.1 + (List.length a.2.2.2.1 + ((a.2.2.2.2.1.map tl).sum + 0)))) := by
  rw [aDo, aHM]
  dsimp only
  omega
end Go.Proofs.YtdobepgddhbncaaGreatDoor
