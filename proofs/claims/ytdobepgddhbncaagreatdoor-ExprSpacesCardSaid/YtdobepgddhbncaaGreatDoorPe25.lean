/-
  Plain laws, Expr 25: words with blanks between; the law ExprSpaces.
-/
import Derived.Test.YtdobepgddhbncaaGreatDoorPe12
namespace Go.Proofs.YtdobepgddhbncaaGreatDoor
open Go Go.Pm
set_option linter.unusedSimpArgs false
set_option linter.unusedVariables false
def isSignB (w : Bytes) : Bool := w == ([61, 61] : Bytes) || w == ([33, 61] : Bytes) || w == ([60, 61] : Bytes) || w == ([62, 61] : Bytes) || w == ([60] : Bytes) || w == ([62] : Bytes)
def signT (s : Bytes) (bad : Bool) : Bytes × S_expr_parser := match nxt s with
  | some (w, s') => if isSignB w = true then (w, S_expr_parser.mk s' bad) else ([], S_expr_parser.mk (skip s) bad)
  | none => ([], S_expr_parser.mk (skip s) bad)
theorem eat_no {s p : Bytes} {bad : Bool} (h : hasPre (skip s) p = false) : expr_parser_eat (S_expr_parser.mk s bad) p = some (false, S_expr_parser.mk (skip s) bad) := by
  rw [eat_eq]
  unfold eatB eatR cutP
  rw [h]; rfl
theorem eat_yes {s p t : Bytes} {bad : Bool} (h : skip s = p ++ t) : expr_parser_eat (S_expr_parser.mk s bad) p = some (true, S_expr_parser.mk t bad) := by
  rw [eat_eq]
  have : hasPre (skip s) p = true := by rw [h]; exact List.isPrefixOf_iff_prefix.2 ⟨t, rfl⟩
  unfold eatB eatR cutP
  rw [this]
  simp only [cond_true]
  rw [h, List.drop_left' rfl]
def sgns : List Bytes := [([61, 61] : Bytes), ([33, 61] : Bytes), ([60, 61] : Bytes), ([62, 61] : Bytes), ([60] : Bytes), ([62] : Bytes)]
theorem sign_step {s g : Bytes} {bad : Bool} (k : Nat) (hg : sgns[k]? = some g) (hk : k < 6) : expr_parser_sign_b1 sgns ((k : Int), S_expr_parser.mk s bad) = bif hasPre (skip s) g then some (.inr (g, S_expr_parser.mk ((skip s).drop g.length) bad)) else some (.inl (((k + 1 : Nat) : Int), S_expr_parser.mk (skip s) bad)) := by
  unfold expr_parser_sign_b1
  have hlen : k < sgns.length := lt_of_get hg
  simp only [dlt_true hlen, cond_true, idx_at hg, Option.bind_some, eat_eq]
  unfold eatB eatR cutP
  rw [wrap_inc hlen (by decide)]
  cases hasPre (skip s) g <;> rfl
theorem sign_loop {s : Bytes} {bad : Bool} : ∀ (m k : Nat) (s0 : Bytes), k + m = 6 → skip s0 = skip s →
    loopO (expr_parser_sign_b1 sgns) ((k : Int), S_expr_parser.mk s0 bad) = some (match (sgns.drop k).find? (fun g => hasPre (skip s) g) with
      | some g => (g, S_expr_parser.mk ((skip s).drop g.length) bad)
      | none => ([], S_expr_parser.mk (if m = 0 then s0 else skip s) bad)) := by
  intro m
  induction m with
  | zero =>
    intro k s0 hk hs
    have : k = 6 := by omega
    subst this
    rw [loopO_eq]
    rfl
  | succ m ih =>
    intro k s0 hk hs
    have hlt : k < sgns.length := by show k < 6; omega
    have hg := List.getElem?_eq_getElem hlt
    have hd := List.drop_eq_getElem_cons hlt
    generalize sgns[k] = g at hg hd
    rw [loopO_eq, sign_step k hg (by omega), hd, hs]
    cases hb : hasPre (skip s) g with
    | true => rw [List.find?_cons_of_pos hb]; rfl
    | false =>
      rw [List.find?_cons_of_neg (by rw [hb]; simp), cond_false]
      show loopO _ (((k + 1 : Nat) : Int), S_expr_parser.mk (skip s) bad) = _
      rw [ih (k + 1) (skip s) (by omega) (skip_idem s)]
      congr 1
      split
      · rfl
      · congr 2
        split <;> rfl
theorem sign_find (u : Bytes) (hu : ∀ c t, u = c :: t → blk c = false) : sgns.find? (fun g => hasPre u g) = match nxt u with
    | some (w, _) => if isSignB w = true then some w else none
    | none => none := by
  have hsk : ∀ c t, u = c :: t → skip u = c :: t := fun c t h => by rw [h, skip_cons, hu c t h]; rfl
  cases hux : u with
  | nil => rfl
  | cons c t =>
    have hs := hsk c t hux
    rw [hux] at hs
    rw [nxt_cons hs]
    have hwn := wordN_cons c t
    -- whether one of them stands first
    have two : ∀ (d : UInt8), hasPre (c :: t) [d, 61] = (c == d && t.head? == some 61) := fun d => by
      rw [hasPre_two, hasPre_head, List.drop_succ_cons, List.drop_zero, pre1]
    unfold sgns
    simp only [List.find?_cons, List.find?_nil, two, hasPre_head]
    by_cases hop : sgnB c = true
    · -- a sign, or a sole one of these
      have f : (c == 39) = false ∧ (c == 36) = false ∧ isDig c = false ∧ (c == 45) = false := by
        unfold sgnB at hop
        simp only [Bool.or_eq_true, beq_iff_eq] at hop
        rcases hop with ((h | h) | h) | h <;> subst h <;> exact ⟨rfl, rfl, rfl, rfl⟩
      rw [f.1, cond_false, refN_none (by rw [hasPre_head]; exact f.2.1), f.2.2.1, f.2.2.2, hop, Bool.and_true] at hwn
      have hwn : wordN (c :: t) = bif (t.head? == some 61) then 2 else bif oneB c then 1 else 0 := hwn
      rw [hwn]
      cases ht : (t.head? == some 61) with
      | true =>
        obtain ⟨u, rfl⟩ : ∃ u, t = 61 :: u := by
          cases t with
          | nil => cases ht
          | cons y u => exact ⟨u, by have := eq_of_beq ht; injection this with this; rw [this]⟩
        simp only [Bool.and_true, cond_true]
        unfold sgnB at hop
        simp only [Bool.or_eq_true, beq_iff_eq] at hop
        rcases hop with ((h | h) | h) | h <;> subst h <;> rfl
      | false =>
        simp only [Bool.and_false, cond_false]
        unfold sgnB at hop
        simp only [Bool.or_eq_true, beq_iff_eq] at hop
        rcases hop with ((h | h) | h) | h <;> subst h <;> rfl
    · have hop : sgnB c = false := by cases hh : sgnB c with | false => rfl | true => exact absurd hh hop
      have f : (c == 61) = false ∧ (c == 33) = false ∧ (c == 60) = false ∧ (c == 62) = false := by
        unfold sgnB at hop
        simp only [Bool.or_eq_false_iff] at hop
        exact ⟨hop.1.1.1, hop.1.1.2, hop.1.2, hop.2⟩
      simp only [f.1, f.2.1, f.2.2.1, f.2.2.2, Bool.false_and]
      by_cases h0 : wordN (c :: t) = 0
      · rw [if_pos h0]
      · rw [if_neg h0]
        obtain ⟨k, hk⟩ : ∃ k, wordN (c :: t) = k + 1 := ⟨wordN (c :: t) - 1, by omega⟩
        rw [hk, List.take_succ_cons]
        have : isSignB (c :: t.take k) = false := by
          unfold isSignB
          have g : ∀ (d : UInt8) (r : Bytes), (c == d) = false → ((c :: t.take k) == (d :: r)) = false := fun d r h => by
            show ((c == d) && _) = false
            rw [h]; rfl
          rw [g 61 _ f.1, g 33 _ f.2.1, g 60 _ f.2.2.1, g 62 _ f.2.2.2, g 60 _ f.2.2.1, g 62 _ f.2.2.2]; rfl
        dsimp only
        rw [this]; rfl
theorem sign_eq {s : Bytes} {bad : Bool} : expr_parser_sign (S_expr_parser.mk s bad) = some (signT s bad) := by
  unfold expr_parser_sign
  rw [show expr_signs = some sgns from rfl, Option.bind_some]
  have h := sign_loop (s := s) (bad := bad) 6 0 s rfl rfl
  rw [show (0 : Int) = ((0 : Nat) : Int) from rfl, h, List.drop_zero, sign_find (skip s) (fun c t hc => skip_head hc), nxt_skip]
  unfold signT
  cases hn : nxt s with
  | none => rfl
  | some x =>
    obtain ⟨w, s'⟩ := x
    dsimp only
    by_cases hw : isSignB w = true
    · rw [if_pos hw, if_pos hw]
      obtain ⟨_, _, h1, _⟩ := lex_some hn
      dsimp only
      rw [h1, List.drop_left' rfl]
    · rw [if_neg hw, if_neg hw]; rfl
theorem wordN_sole {d : UInt8} (hd : d = 40 ∨ d = 41 ∨ d = 38 ∨ d = 124) (t : Bytes) : wordN (d :: t) = 1 ∧ blk d = false := by
  rw [wordN_cons, refN_none (by rw [hasPre_head]; rcases hd with rfl | rfl | rfl | rfl <;> rfl)]
  rcases hd with rfl | rfl | rfl | rfl <;> exact ⟨by cases (t.head? == some 61) <;> rfl, rfl⟩
theorem eat_spec {d : UInt8} (hd : d = 40 ∨ d = 41 ∨ d = 38 ∨ d = 124) (s : Bytes) (bad : Bool) :
    (∃ s', nxt s = some ([d], s') ∧ expr_parser_eat (S_expr_parser.mk s bad) [d] = some (true, S_expr_parser.mk s' bad)) ∨
    ((∀ s', nxt s ≠ some ([d], s')) ∧ expr_parser_eat (S_expr_parser.mk s bad) [d] = some (false, S_expr_parser.mk (skip s) bad)) := by
  cases hs : hasPre (skip s) [d] with
  | true =>
    obtain ⟨t, ht⟩ := pre_split hs
    refine .inl ⟨t, ?_, eat_yes ht⟩
    rw [nxt_cons ht, (wordN_sole hd t).1]; rfl
  | false =>
    refine .inr ⟨fun s' h => ?_, eat_no hs⟩
    obtain ⟨_, _, h1, _⟩ := lex_some h
    rw [h1] at hs
    rw [show hasPre ([d] ++ s') [d] = true from List.isPrefixOf_iff_prefix.2 ⟨s', rfl⟩] at hs
    cases hs
theorem wordN_not (t : Bytes) : wordN (33 :: t) = if t.head? = some 61 then 2 else 1 := by
  rw [wordN_cons, refN_none (by rw [hasPre_head]; rfl)]
  show (bif (t.head? == some 61) && true then 2 else 1) = _
  by_cases h : t.head? = some 61
  · rw [if_pos h, h]; rfl
  · rw [if_neg h]
    have : (t.head? == some 61) = false := by simpa using h
    rw [this]; rfl
theorem eat_not (s : Bytes) (bad : Bool) :
    (∃ s', nxt s = some ([33], s') ∧ expr_parser_eat (S_expr_parser.mk s bad) [33] = some (true, S_expr_parser.mk s' bad)) ∨
    (∃ s' t, nxt s = some ([33, 61], s') ∧ s' = t ∧ expr_parser_eat (S_expr_parser.mk s bad) [33] = some (true, S_expr_parser.mk (61 :: t) bad) ∧ t.length < s.length) ∨
    ((∀ s', nxt s ≠ some ([33], s')) ∧ (∀ s', nxt s ≠ some ([33, 61], s')) ∧ expr_parser_eat (S_expr_parser.mk s bad) [33] = some (false, S_expr_parser.mk (skip s) bad)) := by
  cases hs : hasPre (skip s) [33] with
  | true =>
    obtain ⟨t, ht⟩ := pre_split hs
    by_cases h61 : t.head? = some 61
    · obtain ⟨u, rfl⟩ : ∃ u, t = 61 :: u := by
        cases t with
        | nil => cases h61
        | cons y u => exact ⟨u, by injection h61 with h61; rw [h61]⟩
      refine .inr (.inl ⟨u, u, ?_, rfl, eat_yes ht, ?_⟩)
      · rw [nxt_cons ht, wordN_not, if_pos h61]; rfl
      · have := skip_le s
        rw [ht, List.length_cons, List.length_cons] at this; omega
    · refine .inl ⟨t, ?_, eat_yes ht⟩
      rw [nxt_cons ht, wordN_not, if_neg h61]; rfl
  | false =>
    refine .inr (.inr ⟨fun s' h => ?_, fun s' h => ?_, eat_no hs⟩)
    · obtain ⟨_, _, h1, _⟩ := lex_some h
      rw [h1, show hasPre ([33] ++ s') [33] = true from List.isPrefixOf_iff_prefix.2 ⟨s', rfl⟩] at hs
      cases hs
    · obtain ⟨_, _, h1, _⟩ := lex_some h
      rw [h1, show hasPre ([33, 61] ++ s') [33] = true from List.isPrefixOf_iff_prefix.2 ⟨61 :: s', rfl⟩] at hs
      cases hs
end Go.Proofs.YtdobepgddhbncaaGreatDoor
namespace Go.Proofs.YtdobepgddhbncaaGreatDoor
open Go Go.Pm
set_option linter.unusedSimpArgs false
set_option linter.unusedVariables false
abbrev Res := Option (S_Expr × List Bytes)
def pOne (any : List Bytes → Res) : Nat → List Bytes → Res
  | 0, _ => none
  | _ + 1, [] => none
  | m + 1, w :: l => if w = [33] then (pOne any m l).map (fun p => (S_Expr.mk 4 0 [] [] [p.1], p.2))
    else if w = [40] then (match any l with
      | some (x, c :: r) => if c = [41] then some (x, r) else none
      | _ => none)
    else if (leafX w).Kind = 0 then none else (match l with
      | [] => some (leafX w, [])
      | g :: l2 => if isSignB g = true then (match l2 with
        | [] => none
        | w2 :: r => if (leafX w2).Kind = 0 then none else some (S_Expr.mk 7 0 [] g [leafX w, leafX w2], r)) else some (leafX w, g :: l2))
theorem pOne_cons (any : List Bytes → Res) (m : Nat) (w : Bytes) (l : List Bytes) : pOne any (m + 1) (w :: l) = if w = [33] then (pOne any m l).map (fun p => (S_Expr.mk 4 0 [] [] [p.1], p.2))
    else if w = [40] then (match any l with
      | some (x, c :: r) => if c = [41] then some (x, r) else none
      | _ => none)
    else if (leafX w).Kind = 0 then none else (match l with
      | [] => some (leafX w, [])
      | g :: l2 => if isSignB g = true then (match l2 with
        | [] => none
        | w2 :: r => if (leafX w2).Kind = 0 then none else some (S_Expr.mk 7 0 [] g [leafX w, leafX w2], r)) else some (leafX w, g :: l2)) := by rw [pOne.eq_def]
def pMore (one : List Bytes → Res) (by_ : Bytes) : Nat → List Bytes → Option (List S_Expr × List Bytes)
  | 0, _ => none
  | _ + 1, [] => some ([], [])
  | m + 1, w :: l => if w = by_ then (match one l with
      | none => none
      | some (x, r) => (pMore one by_ m r).map fun p => (x :: p.1, p.2)) else some ([], w :: l)
def packX (kind : Int) (x : S_Expr) (xs : List S_Expr) : S_Expr := bif xs.isEmpty then x else S_Expr.mk kind 0 [] [] (x :: xs)
def pRow (one : List Bytes → Res) (kind : Int) (by_ : Bytes) (m : Nat) (l : List Bytes) : Res := match one l with
  | none => none
  | some (x, r) => match pMore one by_ m r with
    | none => none
    | some (xs, r') => some (packX kind x xs, r')
def pAny : Nat → List Bytes → Res
  | 0 => fun _ => none
  | n + 1 => fun l => pRow (fun l => pRow (pOne (pAny n) (n + 1)) 5 [38] (n + 1) l) 6 [124] (n + 1) l
def Sim (o : Res) (ok : Bool) (len : Nat) (res : Option (S_Expr × S_expr_parser)) : Prop := ∃ x st, res = some (x, st) ∧ match o with
  | none => st = S_expr_parser.mk [] true
  | some (y, r) => x = y ∧ st.bad = false ∧ lexW st.s = (r, ok) ∧ st.s.length < len
theorem eat_empty {d : UInt8} (bad : Bool) : expr_parser_eat (S_expr_parser.mk [] bad) [d] = some (false, S_expr_parser.mk [] bad) := eat_no (s := []) rfl
theorem one_bad61 (A : S_expr_parser → Option (S_Expr × S_expr_parser)) (M : Nat) {t : Bytes} (ht : (61 :: t).length ≤ 100000) : expr_parser_one_r A (M + 1) (S_expr_parser.mk (61 :: t) false) = some (zeroX, S_expr_parser.mk [] true) := by
  show expr_parser_one_s A (expr_parser_one_r A M) _ = _
  unfold expr_parser_one_s
  have hsk : skip (61 :: t) = 61 :: t := by rw [skip_cons]; rfl
  have e1 : expr_parser_eat (S_expr_parser.mk (61 :: t) false) [33] = some (false, S_expr_parser.mk (61 :: t) false) := by
    have := eat_no (s := 61 :: t) (p := [33]) (bad := false) (by rw [hsk, hasPre_head]; rfl)
    rw [hsk] at this; exact this
  have e2 : expr_parser_eat (S_expr_parser.mk (61 :: t) false) [40] = some (false, S_expr_parser.mk (61 :: t) false) := by
    have := eat_no (s := 61 :: t) (p := [40]) (bad := false) (by rw [hsk, hasPre_head]; rfl)
    rw [hsk] at this; exact this
  have e3 : simT (61 :: t) false = (zeroX, S_expr_parser.mk [] true) := by
    unfold simT
    rw [nxt_cons hsk]
    by_cases h0 : wordN (61 :: t) = 0
    · rw [if_pos h0]
    · rw [if_neg h0]
      obtain ⟨k, hk⟩ : ∃ k, wordN (61 :: t) = k + 1 := ⟨wordN (61 :: t) - 1, by omega⟩
      rw [hk, List.take_succ_cons]
      dsimp only
      rw [leaf_op rfl rfl rfl rfl]; rfl
  rw [cond_false, e1, Option.bind_some, cond_false, e2, Option.bind_some, cond_false, simple_eq ht, e3, Option.bind_some, sign_eq, Option.bind_some]; rfl
theorem one_sim {A : S_expr_parser → Option (S_Expr × S_expr_parser)} {P : List Bytes → Res} {N : Nat} (hN : N ≤ 100000)
    (hA : ∀ s, s.length < N → Sim (P (lexW s).1) (lexW s).2 s.length (A (S_expr_parser.mk s false))) :
    ∀ (m M : Nat) (s : Bytes), s.length ≤ N → s.length < m → s.length < M → Sim (pOne P m (lexW s).1) (lexW s).2 s.length (expr_parser_one_r A M (S_expr_parser.mk s false)) := by
  intro m
  induction m with
  | zero => intro M s _ h _; omega
  | succ m ih =>
    intro M s hs hm hM
    obtain ⟨M, rfl⟩ : ∃ M', M = M' + 1 := ⟨M - 1, by omega⟩
    show Sim _ _ _ (expr_parser_one_s A (expr_parser_one_r A M) _)
    unfold expr_parser_one_s
    rw [cond_false]
    rcases eat_not s false with ⟨s', hn, he⟩ | ⟨s', t, hn, rfl, he, hlt⟩ | ⟨hn1, hn2, he⟩
    · -- it is not
      obtain ⟨hl, _, _, hlen, _⟩ := lex_some hn
      rw [he, Option.bind_some, cond_true]
      dsimp only
      obtain ⟨x, st, h1, h2⟩ := ih M s' (by omega) (by omega) (by omega)
      rw [h1, Option.bind_some, hl]
      dsimp only
      rw [pOne_cons, if_pos rfl]
      cases hp : pOne P m (lexW s').1 with
      | none =>
        rw [hp] at h2
        exact ⟨_, _, rfl, h2⟩
      | some p =>
        rw [hp] at h2
        obtain ⟨y, r⟩ := p
        obtain ⟨rfl, h3, h4, h5⟩ := h2
        exact ⟨_, _, rfl, rfl, h3, h4, Nat.lt_trans h5 hlen⟩
    · -- '!=' where a part should begin
      obtain ⟨hl, _, _, hlen, _⟩ := lex_some hn
      have hM' : ∃ M', M = M' + 1 := ⟨M - 1, by omega⟩
      obtain ⟨M', rfl⟩ := hM'
      rw [he, Option.bind_some, cond_true]
      dsimp only
      rw [one_bad61 A M' (by rw [List.length_cons]; omega), Option.bind_some, hl]
      have : pOne P (m + 1) ([33, 61] :: (lexW s').1) = none := by
        rw [pOne_cons, if_neg (by decide), if_neg (by decide), leaf_op rfl rfl rfl rfl]; rfl
      rw [this]
      exact ⟨_, _, rfl, rfl⟩
    · rw [he, Option.bind_some, cond_false]
      dsimp only
      have hsk := skip_le s
      rcases eat_spec (d := 40) (.inl rfl) (skip s) false with ⟨s', hn, he2⟩ | ⟨hn3, he2⟩
      · -- brackets
        rw [nxt_skip] at hn
        obtain ⟨hl, _, _, hlen, _⟩ := lex_some hn
        rw [he2, Option.bind_some, cond_true]
        dsimp only
        obtain ⟨x, st, h1, h2⟩ := hA s' (by omega)
        rw [h1, Option.bind_some, hl]
        have hp1 : pOne P (m + 1) ([40] :: (lexW s').1) = (match P (lexW s').1 with
            | some (x, c :: r) => if c = [41] then some (x, r) else none
            | _ => none) := by rw [pOne_cons, if_neg (by decide), if_pos rfl]
        rw [hp1]
        cases hp : P (lexW s').1 with
        | none =>
          rw [hp] at h2
          dsimp only at h2 ⊢
          rw [h2, eat_empty, Option.bind_some]
          exact ⟨_, _, rfl, rfl⟩
        | some p =>
          rw [hp] at h2
          obtain ⟨y, r⟩ := p
          obtain ⟨h3, h4, h5, h6⟩ := h2
          obtain ⟨s2, b2⟩ := st
          dsimp only at h4 h5 h6 ⊢
          subst h4 h3
          rcases eat_spec (d := 41) (.inr (.inl rfl)) s2 false with ⟨s3, hn4, he4⟩ | ⟨hn4, he4⟩
          · obtain ⟨hl4, _, _, hlen4, _⟩ := lex_some hn4
            rw [hl4] at h5
            injection h5 with h5 h7
            subst h5
            rw [he4, Option.bind_some]
            show Sim (if ([41] : Bytes) = [41] then some (x, (lexW s3).1) else none) _ _ _
            rw [if_pos rfl]
            exact ⟨_, _, rfl, rfl, rfl, by show lexW s3 = _; rw [← h7], by show s3.length < _; omega⟩
          · rw [he4, Option.bind_some]
            have : (match r with
                | c :: r' => if c = [41] then some (x, r') else none
                | [] => none : Res) = none := by
              cases r with
              | nil => rfl
              | cons c r' =>
                dsimp only
                split
                · rename_i hc
                  subst hc
                  exfalso
                  cases hnx : nxt s2 with
                  | none => rw [lex_none hnx] at h5; cases h5
                  | some q =>
                    obtain ⟨w, s3⟩ := q
                    obtain ⟨hl5, _⟩ := lex_some hnx
                    rw [hl5] at h5
                    injection h5 with h5 _
                    injection h5 with h5 _
                    subst h5
                    exact hn4 s3 hnx
                · rfl
            cases r with
            | nil => exact ⟨_, _, rfl, rfl⟩
            | cons c r' =>
              dsimp only at this ⊢
              rw [this]
              exact ⟨_, _, rfl, rfl⟩
      · -- a simple part
        rw [skip_idem] at he2
        rw [he2, Option.bind_some, cond_false]
        dsimp only
        rw [simple_eq (by omega), Option.bind_some]
        unfold simT
        rw [nxt_skip]
        cases hn : nxt s with
        | none =>
          rw [lex_none hn]
          dsimp only
          rw [sign_eq, Option.bind_some]
          exact ⟨_, _, rfl, rfl⟩
        | some p =>
          obtain ⟨w, s'⟩ := p
          obtain ⟨hl, hw0, _, hlen, _⟩ := lex_some hn
          have hw33 : w ≠ [33] := fun e => hn1 s' (by rw [hn, e])
          have hw40 : w ≠ [40] := fun e => hn3 s' (by rw [nxt_skip, hn, e])
          rw [hl]
          dsimp only
          rw [pOne_cons, if_neg hw33, if_neg hw40]
          by_cases hk : (leafX w).Kind = 0
          · rw [if_pos hk, if_pos hk]
            dsimp only
            rw [sign_eq, Option.bind_some]
            exact ⟨_, _, rfl, rfl⟩
          · rw [if_neg hk, if_neg hk]
            dsimp only
            rw [sign_eq, Option.bind_some]
            unfold signT
            cases hn2' : nxt s' with
            | none =>
              rw [lex_none hn2']
              dsimp only
              refine ⟨_, _, rfl, rfl, rfl, ?_, by show (skip s').length < _; have := skip_le s'; omega⟩
              show lexW (skip s') = _
              rw [lexW_skip, lex_none hn2']
            | some q =>
              obtain ⟨g, s2⟩ := q
              obtain ⟨hl2, hg0, _, hlen2, _⟩ := lex_some hn2'
              rw [hl2]
              dsimp only
              by_cases hg : isSignB g = true
              · rw [if_pos hg, if_pos hg]
                dsimp only
                have : (g == ([] : Bytes)) = false := by cases g with | nil => exact absurd rfl hg0 | cons => rfl
                rw [this, cond_false, simple_eq (by omega), Option.bind_some]
                unfold simT
                cases hn5 : nxt s2 with
                | none =>
                  rw [lex_none hn5]
                  exact ⟨_, _, rfl, rfl⟩
                | some q =>
                  obtain ⟨w2, s3⟩ := q
                  obtain ⟨hl5, _, _, hlen5, _⟩ := lex_some hn5
                  rw [hl5]
                  dsimp only
                  by_cases hk2 : (leafX w2).Kind = 0
                  · rw [if_pos hk2, if_pos hk2]
                    exact ⟨_, _, rfl, rfl⟩
                  · rw [if_neg hk2, if_neg hk2]
                    exact ⟨_, _, rfl, rfl, rfl, rfl, by show s3.length < _; omega⟩
              · rw [if_neg hg, if_neg hg]
                refine ⟨_, _, rfl, rfl, rfl, ?_, by show (skip s').length < _; have := skip_le s'; omega⟩
                show lexW (skip s') = _
                rw [lexW_skip, hl2]
/-! ### Rows of parts -/
noncomputable def partsB (one : S_expr_parser → Option (S_Expr × S_expr_parser)) (by_ : Bytes) (x : (List S_Expr) × S_expr_parser) : Option (((List S_Expr) × S_expr_parser) ⊕ ((List S_Expr) × S_expr_parser)) :=
  match x with
  | (s3, s4) =>
    (expr_parser_eat s4 by_).bind fun x5 =>
    bif x5.1 then
      (one (x5.2)).bind fun x6 =>
      (app 72 s3 ([(x6.1)] : List S_Expr)).bind fun x7 =>
      some (.inl (x7, (x6.2)))
    else
      some (.inr (s3, (x5.2)))
noncomputable def partsI (one : S_expr_parser → Option (S_Expr × S_expr_parser)) (o0 : S_expr_parser) (a1 : Int) (a2 : Bytes) : Option (S_Expr × S_expr_parser) :=
  (one o0).bind fun x1 =>
  (loopO (partsB one a2) (([(x1.1)] : List S_Expr), (x1.2)) : Option ((List S_Expr) × S_expr_parser)).bind fun j2 =>
  bif (((j2.1).length : Int) == (1 : Int)) then
    (idx (j2.1) (0 : Int)).bind fun x8 =>
    some (x8, (j2.2))
  else
    some ((S_Expr.mk a1 (0 : Int) ([] : Bytes) ([] : Bytes) (j2.1)), (j2.2))
theorem parts_one (A : S_expr_parser → Option (S_Expr × S_expr_parser)) (o0 : S_expr_parser) (a1 : Int) (a2 : Bytes) : expr_parser_parts_expr_parser_one A o0 a1 a2 = partsI (expr_parser_one A) o0 a1 a2 := rfl
theorem parts_any (A : S_expr_parser → Option (S_Expr × S_expr_parser)) (o0 : S_expr_parser) (a1 : Int) (a2 : Bytes) : expr_parser_parts_expr_parser_any_1 A o0 a1 a2 = partsI (expr_parser_any_1 A) o0 a1 a2 := rfl
theorem bind_pair {α β : Type} (o : Option (α × β)) : (o.bind fun x => some (x.1, x.2)) = o := by cases o <;> rfl
section
variable {one : S_expr_parser → Option (S_Expr × S_expr_parser)} {P : List Bytes → Res} {N : Nat} (hN : N ≤ 100000) {d : UInt8} (hd : d = 40 ∨ d = 41 ∨ d = 38 ∨ d = 124)
  (h1 : ∀ s, s.length ≤ N → Sim (P (lexW s).1) (lexW s).2 s.length (one (S_expr_parser.mk s false)))
include hN hd h1
theorem more_sim : ∀ (m : Nat) (s : Bytes) (acc : List S_Expr), s.length ≤ N → s.length < m → acc.length + s.length ≤ 200000 → ∃ acc' st, loopO (partsB one [d]) (acc, S_expr_parser.mk s false) = some (acc', st) ∧ match pMore P [d] m (lexW s).1 with
    | none => st = S_expr_parser.mk [] true ∧ 1 ≤ acc'.length
    | some (xs, r) => acc' = acc ++ xs ∧ st.bad = false ∧ lexW st.s = (r, (lexW s).2) ∧ st.s.length ≤ s.length := by
  intro m
  induction m with
  | zero => intro s acc _ h; omega
  | succ m ih =>
    intro s acc hs hm hacc
    rw [loopO_eq]
    rcases eat_spec hd s false with ⟨s', hn, he⟩ | ⟨hn, he⟩
    · obtain ⟨hl, _, _, hlen, _⟩ := lex_some hn
      obtain ⟨x, st, e1, e2⟩ := h1 s' (by omega)
      have hb : partsB one [d] (acc, S_expr_parser.mk s false) = some (.inl (acc ++ [x], st)) := by
        unfold partsB
        dsimp only
        rw [he, Option.bind_some, cond_true]
        dsimp only
        rw [e1, Option.bind_some, app_ok (by simp; omega) (by omega)]; rfl
      rw [hb, hl]
      show ∃ acc' st', loopO (partsB one [d]) (acc ++ [x], st) = _ ∧ _
      have hp : pMore P [d] (m + 1) ([d] :: (lexW s').1) = (match P (lexW s').1 with
        | none => none
        | some (x, r) => (pMore P [d] m r).map fun p => (x :: p.1, p.2)) := by rw [pMore, if_pos rfl]
      rw [hp]
      cases hq : P (lexW s').1 with
      | none =>
        rw [hq] at e2
        dsimp only at e2 ⊢
        rw [e2, loopO_eq]
        have : partsB one [d] (acc ++ [x], S_expr_parser.mk [] true) = some (.inr (acc ++ [x], S_expr_parser.mk [] true)) := by
          unfold partsB
          dsimp only
          rw [eat_empty]; rfl
        rw [this]
        exact ⟨_, _, rfl, rfl, by simp⟩
      | some p =>
        rw [hq] at e2
        obtain ⟨y, r⟩ := p
        obtain ⟨q1, q2, q3, q4⟩ := e2
        obtain ⟨s2, b2⟩ := st
        dsimp only at q2 q3 q4 ⊢
        subst q1 q2
        obtain ⟨acc', st', g1, g2⟩ := ih s2 (acc ++ [x]) (by omega) (by omega) (by rw [List.length_append, List.length_singleton]; omega)
        refine ⟨acc', st', g1, ?_⟩
        rw [q3] at g2
        dsimp only at g2
        cases hw : pMore P [d] m r with
        | none => rw [hw] at g2; exact g2
        | some p =>
          rw [hw] at g2
          obtain ⟨xs, r'⟩ := p
          dsimp only at g2 ⊢
          obtain ⟨g3, g4, g5, g6⟩ := g2
          exact ⟨by rw [g3]; simp, g4, g5, by omega⟩
    · have hb : partsB one [d] (acc, S_expr_parser.mk s false) = some (.inr (acc, S_expr_parser.mk (skip s) false)) := by
        unfold partsB
        dsimp only
        rw [he]; rfl
      rw [hb]
      refine ⟨_, _, rfl, ?_⟩
      have hsl := skip_le s
      cases hn2 : nxt s with
      | none =>
        rw [lex_none hn2]
        exact ⟨(List.append_nil _).symm, rfl, by show lexW (skip s) = _; rw [lexW_skip, lex_none hn2], hsl⟩
      | some p =>
        obtain ⟨w, s'⟩ := p
        obtain ⟨hl, _, _, hlen, _⟩ := lex_some hn2
        rw [hl]
        have hw : w ≠ [d] := fun e => hn s' (by rw [hn2, e])
        rw [pMore, if_neg hw]
        exact ⟨(List.append_nil _).symm, rfl, by show lexW (skip s) = _; rw [lexW_skip, hl], hsl⟩
theorem row_sim (kind : Int) (m : Nat) (s : Bytes) (hs : s.length ≤ N) (hm : s.length < m) : Sim (pRow P kind [d] m (lexW s).1) (lexW s).2 s.length (partsI one (S_expr_parser.mk s false) kind [d]) := by
  obtain ⟨x, st, e1, e2⟩ := h1 s hs
  unfold partsI pRow
  rw [e1, Option.bind_some]
  cases hq : P (lexW s).1 with
  | none =>
    rw [hq] at e2
    dsimp only at e2 ⊢
    rw [e2, loopO_eq]
    have : partsB one [d] ([x], S_expr_parser.mk [] true) = some (.inr ([x], S_expr_parser.mk [] true)) := by
      unfold partsB
      dsimp only
      rw [eat_empty]; rfl
    rw [this]
    exact ⟨_, _, rfl, rfl⟩
  | some p =>
    rw [hq] at e2
    obtain ⟨y, r⟩ := p
    obtain ⟨q1, q2, q3, q4⟩ := e2
    obtain ⟨s2, b2⟩ := st
    dsimp only at q2 q3 q4 ⊢
    subst q1 q2
    obtain ⟨acc', st', g1, g2⟩ := more_sim hN hd h1 m s2 [x] (by omega) (by omega) (by rw [List.length_singleton]; omega)
    rw [g1, Option.bind_some]
    rw [q3] at g2
    dsimp only at g2 ⊢
    cases hw : pMore P [d] m r with
    | none =>
      rw [hw] at g2
      obtain ⟨g3, g4⟩ := g2
      dsimp only
      subst g3
      cases acc' with
      | nil => simp at g4
      | cons a l => cases ((((a :: l).length : Nat) : Int) == (1 : Int)) <;> exact ⟨_, _, rfl, rfl⟩
    | some p =>
      rw [hw] at g2
      obtain ⟨xs, r'⟩ := p
      dsimp only at g2 ⊢
      obtain ⟨g3, g4, g5, g6⟩ := g2
      subst g3
      unfold packX
      cases xs with
      | nil => exact ⟨_, _, rfl, rfl, g4, g5, by omega⟩
      | cons a l =>
        have : (((([x] ++ a :: l).length : Nat) : Int) == (1 : Int)) = false := by simp; omega
        rw [this]
        exact ⟨_, _, rfl, rfl, g4, g5, by omega⟩
end
theorem any_sim : ∀ (n M : Nat) (s : Bytes), s.length ≤ 50000 → s.length < n → s.length < M → Sim (pAny n (lexW s).1) (lexW s).2 s.length (expr_parser_any_r M (S_expr_parser.mk s false)) := by
  intro n
  induction n with
  | zero => intro M s _ h; omega
  | succ n ih =>
    intro M s hs hn hM
    obtain ⟨M, rfl⟩ : ∃ M', M = M' + 1 := ⟨M - 1, by omega⟩
    show Sim _ _ _ (expr_parser_any_s (expr_parser_any_r M) _)
    unfold expr_parser_any_s
    rw [bind_pair, parts_any]
    refine row_sim (N := s.length) (by omega) (d := 124) (.inr (.inr (.inr rfl))) (P := fun l => pRow (pOne (pAny n) (n + 1)) 5 [38] (n + 1) l) (fun s1 h1 => ?_) 6 (n + 1) s (Nat.le_refl _) (by omega)
    unfold expr_parser_any_1
    rw [bind_pair, parts_one]
    refine row_sim (N := s.length) (by omega) (d := 38) (.inr (.inr (.inl rfl))) (P := pOne (pAny n) (n + 1)) (fun s2 h2 => ?_) 5 (n + 1) s1 h1 (by omega)
    exact one_sim (N := s.length) (by omega) (fun s3 h3 => ih M s3 (by omega) (by omega) (by omega)) (n + 1) 1000000 s2 h2 (by omega) (by omega)
end Go.Proofs.YtdobepgddhbncaaGreatDoor
namespace Go.Proofs.YtdobepgddhbncaaGreatDoor
open Go Go.Pm
set_option linter.unusedSimpArgs false
set_option linter.unusedVariables false
mutual
def sz : S_Expr → Nat
  | ⟨_, _, _, _, kids⟩ => 1 + szs kids
def szs : List S_Expr → Nat
  | [] => 0
  | x :: l => sz x + szs l
end
theorem sz_eq (x : S_Expr) : sz x = 1 + szs x.Kids := by cases x; rw [sz]
theorem szs_cons (x : S_Expr) (l : List S_Expr) : szs (x :: l) = sz x + szs l := by rw [szs]
theorem szs_nil : szs [] = 0 := by rw [szs]
theorem sz_pos (x : S_Expr) : 1 ≤ sz x := by rw [sz_eq]; omega
theorem szs_append : ∀ (a b : List S_Expr), szs (a ++ b) = szs a + szs b
  | [], b => by rw [szs_nil]; simp
  | x :: a, b => by rw [List.cons_append, szs_cons, szs_cons, szs_append a b]; omega
theorem szs_len : ∀ (l : List S_Expr), l.length ≤ szs l
  | [] => by simp
  | x :: l => by have := szs_len l; have := sz_pos x; rw [szs_cons, List.length_cons]; omega
theorem szs_mem {x : S_Expr} : ∀ {l : List S_Expr}, x ∈ l → sz x ≤ szs l
  | y :: l, h => by
    rw [szs_cons]
    rcases List.mem_cons.1 h with rfl | h
    · omega
    · have := szs_mem h; omega
theorem szs_drop {l : List S_Expr} {i : Nat} (h : i < l.length) : szs (l.drop i) = sz l[i] + szs (l.drop (i + 1)) := by
  rw [List.drop_eq_getElem_cons h, szs_cons]
theorem few_eq (x : S_Expr) : expr_few x = some (decide (sz x ≤ 60)) := by
  unfold expr_few
  have := loopO_rec (body := expr_few_b1) (fun y => decide (y.2.toNat + szs (y.1.drop y.2.toNat) ≤ 60)) (fun y => 61 - y.2.toNat) (fun y => ∃ i : Nat, y.2 = (i : Int) ∧ i ≤ y.1.length ∧ y.1.length ≤ 60) (fun y hy => ?_) ([x], 0) ⟨0, rfl, by simp, by simp⟩
  · rw [this]
    simp [szs_cons, szs_nil]
  · obtain ⟨l, i0⟩ := y
    obtain ⟨i, hi, hil, hl⟩ := hy
    dsimp only at hi hil hl ⊢
    subst hi
    rw [Int.toNat_natCast]
    rcases Nat.lt_or_ge i l.length with hlt | hge
    · have hx := List.getElem?_eq_getElem hlt
      have hs := szs_drop hlt
      have hrest := szs_len (l.drop (i + 1))
      rw [List.length_drop] at hrest
      generalize l[i] = q at hx hs
      have hq := sz_eq q
      have hql := szs_len q.Kids
      have hb : expr_few_b1 (l, (i : Int)) = bif decide ((q.Kids.length : Int) > (60 : Int) - (l.length : Int)) then some (.inr false) else (app 72 l q.Kids).bind fun x5 => some (.inl (x5, ((i + 1 : Nat) : Int))) := by
        unfold expr_few_b1
        simp only [dlt_true hlt, cond_true, idx_at hx, Option.bind_some]
        rw [wrap_i64 (n := (60 : Int) - (l.length : Int)) (by omega) (by omega), wrap_inc hlt (by unfold maxLen; omega)]
      rw [hb]
      by_cases hk : (q.Kids.length : Int) > (60 : Int) - (l.length : Int)
      · refine .inr ?_
        rw [decide_eq_true hk, cond_true, decide_eq_false (by omega)]
      · rw [decide_eq_false hk, cond_false, app_ok (by omega) (by omega), Option.bind_some]
        refine .inl ⟨_, rfl, ⟨i + 1, rfl, ?_, ?_⟩, ?_, ?_⟩
        · dsimp only; rw [List.length_append]; omega
        · dsimp only; rw [List.length_append]; omega
        · simp only [Int.toNat_natCast]; omega
        · simp only [Int.toNat_natCast]
          have e : szs ((l ++ q.Kids).drop (i + 1)) = szs (l.drop (i + 1)) + szs q.Kids := by rw [List.drop_append_of_le_length (by omega), szs_append]
          exact decide_eq_decide.2 (by rw [e, hs]; omega)
    · have : i = l.length := by omega
      subst this
      refine .inr ?_
      unfold expr_few_b1
      dsimp only
      rw [dlt_self, List.drop_length, szs_nil, decide_eq_true (by omega)]; rfl
inductive KOk : S_Expr → Prop
  | mk (x : S_Expr) (h : x.Kids.length ≤ maxLen) (hk : ∀ k, k ∈ x.Kids → KOk k) (ht : x.Text.length ≤ maxLen) : KOk x
theorem KOk.at_ {x : S_Expr} (h : KOk x) : x.Kids.length ≤ maxLen ∧ ∀ k, k ∈ x.Kids → KOk k := by cases h with | mk _ h hk _ => exact ⟨h, hk⟩
theorem KOk.text {x : S_Expr} (h : KOk x) : x.Text.length ≤ maxLen := by cases h with | mk _ h hk ht => exact ht
/-! ### How deep -/
def rowN (x : S_Expr) : Int := bif x.Kind == 5 || x.Kind == 6 then 1 else 0
mutual
def dp : S_Expr → Int
  | ⟨k, _, _, _, kids⟩ => dps kids 0 + (bif k == 4 then 1 else 0)
def dps : List S_Expr → Int → Int
  | [], a => a
  | x :: l, a => dps l (imax a (dp x + rowN x))
end
theorem dp_eq (x : S_Expr) : dp x = dps x.Kids 0 + (bif x.Kind == 4 then 1 else 0) := by cases x; rw [dp]
theorem dps_cons (x : S_Expr) (l : List S_Expr) (a : Int) : dps (x :: l) a = dps l (imax a (dp x + rowN x)) := by rw [dps]
theorem rowN_le (x : S_Expr) : 0 ≤ rowN x ∧ rowN x ≤ 1 := by unfold rowN; cases (x.Kind == 5 || x.Kind == 6) <;> simp
theorem imax_le {a b c : Int} (h1 : a ≤ c) (h2 : b ≤ c) : imax a b ≤ c := by unfold imax; split <;> omega
theorem imax_ge {a b : Int} : a ≤ imax a b := by unfold imax; split <;> omega
theorem dp_bound : ∀ (n : Nat) (x : S_Expr), sz x ≤ n → 0 ≤ dp x ∧ dp x ≤ 2 * (sz x : Int) := by
  intro n
  induction n with
  | zero => intro x h; have := sz_pos x; omega
  | succ n ih =>
    intro x h
    have hl : ∀ (l : List S_Expr) (a c : Int), szs l ≤ n → 0 ≤ a → a ≤ c → 2 * (szs l : Int) + 1 ≤ c → 0 ≤ dps l a ∧ dps l a ≤ c := by
      intro l
      induction l with
      | nil => intro a c _ h0 h1 _; rw [dps]; exact ⟨h0, h1⟩
      | cons k l ihl =>
        intro a c hs h0 h1 h2
        rw [szs_cons] at hs h2
        have hk := ih k (by omega)
        have hr := rowN_le k
        rw [dps_cons]
        have hg := @imax_ge a (dp k + rowN k)
        exact ihl _ c (by omega) (by omega) (imax_le h1 (by omega)) (by omega)
    rw [dp_eq]
    have hs := sz_eq x
    have h1 := hl x.Kids 0 (2 * (szs x.Kids : Int) + 1) (by omega) (by omega) (by omega) (by omega)
    cases x.Kind == 4 <;> simp <;> omega
theorem row_eq (x : S_Expr) : expr_row x = some (x.Kind == 5 || x.Kind == 6) := by
  unfold expr_row; cases x.Kind == 5 <;> rfl
theorem dps_fold : ∀ (l : List S_Expr) (a : Int), foldE (ρ := Int) (fun (a : Int) k => .inl (imax a (dp k + rowN k))) (fun a => a) l a = dps l a
  | [], a => by rw [dps]; rfl
  | x :: l, a => by rw [foldE_cons, dps_cons]; exact dps_fold l _
theorem deep_eq : ∀ (n : Nat) (x : S_Expr), sz x ≤ n → sz x ≤ 100000 → expr_deep_r n x = some (dp x) := by
  intro n
  induction n with
  | zero => intro x h; have := sz_pos x; omega
  | succ n ih =>
    intro x h hb
    have hs := sz_eq x
    have hkl := szs_len x.Kids
    show expr_deep_s (expr_deep_r n) x = _
    unfold expr_deep_s
    have hloop : loopO (expr_deep_b1 (expr_deep_r n) x) ((0 : Int), (0 : Int)) = some (dps x.Kids 0) := by
      rw [← dps_fold]
      refine loop_list (body := expr_deep_b1 (expr_deep_r n) x) x.Kids (fun i (a : Int) => (a, (i : Int))) _ _ (fun _ _ => True) (fun i a k hx _ => ?_) (fun a _ => ?_) 0 trivial
      · have hm := szs_mem (List.mem_of_getElem? hx)
        have hd := dp_bound _ k (Nat.le_refl _)
        refine .inl ⟨_, rfl, ?_, trivial⟩
        unfold expr_deep_b1
        simp only [dlt_true (lt_of_get hx), cond_true, idx_at hx, Option.bind_some, ih k (by omega) (by omega), row_eq]
        rw [wrap_inc (lt_of_get hx) (by unfold maxLen; omega)]
        unfold rowN
        cases (k.Kind == 5 || k.Kind == 6) with
        | true => rw [cond_true, cond_true, wrap_i64 (by omega) (by omega)]
        | false => rw [cond_false, cond_false, Int.add_zero]
      · unfold expr_deep_b1
        simp only [dlt_self, cond_false]
    rw [hloop, Option.bind_some, dp_eq]
    have hd := dp_bound _ x (Nat.le_refl _)
    rw [dp_eq] at hd
    cases hk : x.Kind == 4 with
    | true =>
      rw [hk, cond_true] at hd
      rw [cond_true, cond_true, wrap_i64 (by omega) (by omega)]
    | false => rw [cond_false, cond_false, Int.add_zero]
theorem Deep_prog {x : S_Expr} (h : sz x ≤ 100000) : expr_deep x = some (dp x) := deep_eq 1000000 x (by omega) h
end Go.Proofs.YtdobepgddhbncaaGreatDoor
namespace Go.Proofs.YtdobepgddhbncaaGreatDoor
open Go Go.Pm
set_option linter.unusedSimpArgs false
set_option linter.unusedVariables false
def simpB (x : S_Expr) : Bool := x.Kind == 1 || x.Kind == 2 || x.Kind == 3
def leafB (x : S_Expr) : Bool := x.Sign == ([] : Bytes) && x.Kids.isEmpty && (bif x.Kind == 1 then x.Text == ([] : Bytes) && decide (x.N ≥ -1099511627776) && decide (x.N ≤ 1099511627776)
  else bif x.Kind == 2 then x.N == 0 && !(x.Text.contains 39) else x.N == 0 && decide (refN x.Text > 0) && (refN x.Text == (x.Text.length : Int)))
def nodeB (x : S_Expr) : Bool := bif x.Kind == 7 then isSignB x.Sign && Nat.beq x.Kids.length 2 && x.Kids.all simpB
  else bif x.Kind == 4 then x.Sign == ([] : Bytes) && Nat.beq x.Kids.length 1
  else bif x.Kind == 5 || x.Kind == 6 then x.Sign == ([] : Bytes) && Nat.ble 2 x.Kids.length else false
mutual
def wl : S_Expr → Bool
  | ⟨k, n, t, s, kids⟩ => bif simpB ⟨k, n, t, s, kids⟩ then leafB ⟨k, n, t, s, kids⟩ else n == 0 && (t == ([] : Bytes)) && wls kids && nodeB ⟨k, n, t, s, kids⟩
def wls : List S_Expr → Bool
  | [] => true
  | x :: l => wl x && wls l
end
theorem wl_eq (x : S_Expr) : wl x = bif simpB x then leafB x else x.N == 0 && (x.Text == ([] : Bytes)) && wls x.Kids && nodeB x := by cases x; rw [wl]
theorem wls_all : ∀ (l : List S_Expr), wls l = l.all wl
  | [] => by rw [wls]; rfl
  | x :: l => by rw [wls, wls_all l]; rfl
theorem simple_prog (x : S_Expr) : expr_simple x = some (simpB x) := by
  unfold expr_simple simpB
  cases x.Kind == 1 <;> cases x.Kind == 2 <;> rfl
theorem leaf_prog {x : S_Expr} (hx : KOk x) (hs : simpB x = true) : expr_leaf x = some (leafB x) := by
  unfold expr_leaf leafB
  have e0 : decide ((x.Kids.length : Int) > (0 : Int)) = !x.Kids.isEmpty := by
    cases x.Kids with
    | nil => rfl
    | cons => simp
  rw [e0]
  cases h1 : x.Sign == ([] : Bytes) with
  | false => rfl
  | true =>
    cases h2 : x.Kids.isEmpty with
    | false => rfl
    | true =>
      simp only [Bool.not_true, cond_false, Bool.true_and]
      cases h3 : x.Kind == 1 with
      | true =>
        simp only [cond_true]
        cases x.Text == ([] : Bytes) <;> cases decide (x.N ≥ -1099511627776) <;> rfl
      | false =>
        simp only [cond_false]
        cases h4 : x.Kind == 2 with
        | true =>
          simp only [cond_true]
          cases x.N == 0 with
          | false => rfl
          | true => rw [gcall_tt rfl, Contains_one, indexByte_has]; rfl
        | false =>
          simp only [cond_false]
          rw [show vars_Ref (S_Env.mk ([] : Bytes) ([] : Bytes) ([] : Bytes) ([] : Bytes) ([] : Bytes) ([] : Bytes)) x.Text = _ from varsRef_eq E0_sm hx.text, Option.bind_some, refV_pos]
          cases x.N == 0 <;> cases decide (refN x.Text > 0) <;> rfl
theorem kids_any {l : List S_Expr} {f : S_Expr → Option Bool} (p : S_Expr → Bool) (hf : ∀ k, k ∈ l → f k = some (p k)) (hl : l.length ≤ maxLen) : slices_ContainsFunc__api_Expr_api_Expr l f = some (l.any p) := by
  unfold slices_ContainsFunc__api_Expr_api_Expr slices_IndexFunc__api_Expr_api_Expr
  have hb : ∀ (j : Nat) (k : S_Expr), l[j]? = some k → slices_IndexFunc__api_Expr_api_Expr_b1 l f (j : Int) = bif p k then some (.inr (j : Int)) else some (.inl ((j + 1 : Nat) : Int)) := fun j k hk => by
    unfold slices_IndexFunc__api_Expr_api_Expr_b1
    simp only [dlt_true (lt_of_get hk), cond_true, idx_at hk, Option.bind_some, hf k (List.mem_of_getElem? hk)]
    rw [wrap_inc (lt_of_get hk) hl]
  rcases first_of p l with h | ⟨i, k, h1, h2, h3⟩
  · rw [any_none' h, loop_to l.length fun j hj => ?_, loopO_eq]
    · have : slices_IndexFunc__api_Expr_api_Expr_b1 l f (l.length : Int) = some (.inr (-1 : Int)) := by
        unfold slices_IndexFunc__api_Expr_api_Expr_b1
        rw [dlt_self]; rfl
      rw [this]; rfl
    · have hx := List.getElem?_eq_getElem hj
      rw [hb j _ hx, h j _ hx, cond_false]
  · rw [List.any_eq_true.2 ⟨k, List.mem_of_getElem? h1, h2⟩, loop_to i fun j hj => ?_, loopO_eq, hb i k h1, h2]
    · show some (decide ((i : Int) ≥ (0 : Int))) = _
      rw [decide_eq_true (by omega)]
    · have hj' : j < l.length := by have := lt_of_get h1; omega
      have hx := List.getElem?_eq_getElem hj'
      rw [hb j _ hx, h3 j _ hj hx, cond_false]
theorem len_beq {α : Type} (l : List α) (n : Nat) : (((l.length : Nat) : Int) == (n : Int)) = Nat.beq l.length n := by
  rw [Bool.eq_iff_iff, beq_iff_eq, Nat.beq_eq]; omega
theorem len_ge2 {α : Type} (l : List α) : decide (((l.length : Nat) : Int) ≥ (2 : Int)) = Nat.ble 2 l.length := by
  rw [Bool.eq_iff_iff, decide_eq_true_eq, Nat.ble_eq]; omega
theorem Contains_signs (s : Bytes) : slices_Contains__string_string sgns s = some (isSignB s) := by
  rw [ContainsS_eq (by decide)]
  unfold hasS sgns isSignB
  simp only [List.any_cons, List.any_nil, Bool.or_false, Bool.or_assoc]
theorem two_simple {l : List S_Expr} {x5 : Bool} {g : S_Expr → Option Bool} (hg : ∀ k, g k = some (simpB k)) {β : Type} (fin : Bool → Option β) :
    ((gidx (bif x5 then (((l.length : Nat) : Int) == (2 : Int)) else false) l (0 : Int)).bind fun x6 =>
        (gcall (bif x5 then (((l.length : Nat) : Int) == (2 : Int)) else false) (g x6)).bind fun x7 =>
        (gidx (bif (bif x5 then (((l.length : Nat) : Int) == (2 : Int)) else false) then x7 else false) l (1 : Int)).bind fun x8 =>
        (gcall (bif (bif x5 then (((l.length : Nat) : Int) == (2 : Int)) else false) then x7 else false) (g x8)).bind fun x9 =>
        fin (bif (bif (bif x5 then (((l.length : Nat) : Int) == (2 : Int)) else false) then x7 else false) then x9 else false)) = fin (x5 && Nat.beq l.length 2 && l.all simpB) := by
  cases x5 with
  | false => rfl
  | true =>
    rw [cond_true, show (((l.length : Nat) : Int) == (2 : Int)) = Nat.beq l.length 2 from len_beq l 2, Bool.true_and]
    match l with
    | [] => rfl
    | [a] => rfl
    | [a, b] =>
      show (((some a).bind fun x6 => (gcall true (g x6)).bind fun x7 => _)) = _
      rw [Option.bind_some, gcall_tt rfl, hg, Option.bind_some]
      show _ = fin (simpB a && (simpB b && true))
      rw [Bool.and_true]
      cases simpB a with
      | false => rfl
      | true =>
        show (((some b).bind fun x8 => (gcall true (g x8)).bind fun x9 => _)) = _
        rw [Option.bind_some, gcall_tt rfl, hg, Option.bind_some]; rfl
    | a :: b :: c :: t => rfl
theorem well_prog : ∀ (n : Nat) (x : S_Expr), sz x ≤ n → KOk x → expr_well_r n x = some (wl x) := by
  intro n
  induction n with
  | zero => intro x h; have := sz_pos x; omega
  | succ n ih =>
    intro x h hk
    have hs := sz_eq x
    show expr_well_s (expr_well_r n) x = _
    unfold expr_well_s
    rw [simple_prog, Option.bind_some, wl_eq]
    cases hsim : simpB x with
    | true => rw [cond_true, cond_true, leaf_prog hk hsim]; rfl
    | false =>
      rw [cond_false, cond_false]
      have hany : slices_ContainsFunc__api_Expr_api_Expr x.Kids (fun x0 => expr_well_1 (expr_well_r n) x0) = some (x.Kids.any fun k => !wl k) := by
        refine kids_any _ (fun k hm => ?_) hk.at_.1
        have := szs_mem hm
        unfold expr_well_1
        rw [ih k (by omega) (hk.at_.2 k hm)]; rfl
      have hnot : (x.Kids.any fun k => !wl k) = !wls x.Kids := by
        rw [wls_all, List.any_eq_not_all_not]; simp
      rw [show (x.N != (0 : Int)) = !(x.N == 0) from rfl]
      cases h1 : x.N == 0 with
      | false => rfl
      | true =>
        cases h2 : x.Text == ([] : Bytes) with
        | false => rfl
        | true =>
          simp only [Bool.not_true, cond_false, Bool.not_false, gcall_true, hany, Option.bind_some, hnot, Bool.true_and]
          cases h3 : wls x.Kids with
          | false => rfl
          | true =>
            simp only [Bool.not_true, cond_false, Bool.true_and]
            unfold nodeB
            cases h7 : x.Kind == 7 with
            | true =>
              rw [cond_true, cond_true, show expr_signs = some sgns from rfl, Option.bind_some, Contains_signs, Option.bind_some]
              exact two_simple (fun k => simple_prog k) some
            | false =>
              rw [cond_false, cond_false, len_ge2, show (((x.Kids.length : Nat) : Int) == (1 : Int)) = Nat.beq x.Kids.length 1 from len_beq x.Kids 1]
              cases x.Kind == 4 with
              | true => cases x.Sign == ([] : Bytes) <;> rfl
              | false =>
                cases x.Kind == 5 with
                | true => cases x.Sign == ([] : Bytes) <;> rfl
                | false =>
                  cases x.Kind == 6 with
                  | true => cases x.Sign == ([] : Bytes) <;> rfl
                  | false => rfl
end Go.Proofs.YtdobepgddhbncaaGreatDoor
namespace Go.Proofs.YtdobepgddhbncaaGreatDoor
open Go Go.Pm
set_option linter.unusedSimpArgs false
set_option linter.unusedVariables false
def opn (w : Bytes) : Int := (if w = [40] then 1 else 0) - (if w = [41] then 1 else 0)
def partS (by_ : Bytes) : Int → List Bytes → List Bytes → List (List Bytes)
  | _, cur, [] => [cur]
  | o, cur, w :: l => if o + opn w = 0 ∧ w = by_ then cur :: partS by_ (o + opn w) [] l else partS by_ (o + opn w) (cur ++ [w]) l
def closesB : Int → List Bytes → Bool
  | _, [] => false
  | o, w :: l => if o + opn w = 0 then l.isEmpty else closesB (o + opn w) l
def boundF (wh : List Bytes → S_Expr) : Nat → List Bytes → S_Expr
  | 0, _ => zeroX
  | _ + 1, [] => zeroX
  | m + 1, w :: l => if w = [33] then (if (boundF wh m l).Kind = 0 then zeroX else S_Expr.mk 4 0 [] [] [boundF wh m l])
    else if w = [40] then (if 2 < l.length + 1 ∧ closesB 0 (w :: l) = true then wh (l.take (l.length - 1)) else zeroX)
    else match l with
      | [] => leafX w
      | [g, w2] => if isSignB g = true then (if (leafX w).Kind = 0 ∨ (leafX w2).Kind = 0 then zeroX else S_Expr.mk 7 0 [] g [leafX w, leafX w2]) else zeroX
      | _ => zeroX
def rowX (by_ : Bytes) (f : List Bytes → S_Expr) (kind : Int) (l : List Bytes) : S_Expr :=
  if (partS by_ 0 [] l).any (fun p => (f p).Kind == 0) = true then zeroX else packX kind (((partS by_ 0 [] l).map f).headD zeroX) (((partS by_ 0 [] l).map f).drop 1)
def wholeF : Nat → List Bytes → S_Expr
  | 0 => fun _ => zeroX
  | n + 1 => fun l => rowX [124] (fun p => rowX [38] (boundF (wholeF n) (n + 1)) 5 p) 6 l
/-! ### Rows, joined and parted -/
def joinT (by_ : Bytes) : List (List Bytes) → List Bytes
  | [] => []
  | [p] => p
  | p :: q :: ps => p ++ by_ :: joinT by_ (q :: ps)
theorem partS_ne (by_ : Bytes) : ∀ (l : List Bytes) (o : Int) (cur : List Bytes), ∃ p ps, partS by_ o cur l = p :: ps
  | [], o, cur => ⟨cur, [], rfl⟩
  | w :: l, o, cur => by
    rw [partS]
    split
    · exact ⟨_, _, rfl⟩
    · exact partS_ne by_ l _ _
theorem partS_join (by_ : Bytes) : ∀ (l : List Bytes) (o : Int) (cur : List Bytes), joinT by_ (partS by_ o cur l) = cur ++ l
  | [], o, cur => by rw [partS]; simp [joinT]
  | w :: l, o, cur => by
    rw [partS]
    split
    · rename_i h
      obtain ⟨p, ps, hp⟩ := partS_ne by_ l (o + opn w) []
      have := partS_join by_ l (o + opn w) []
      rw [hp] at this ⊢
      rw [joinT, this, h.2]; rfl
    · rw [partS_join by_ l _ _]; simp
def okSeg : Int → List Bytes → Prop
  | o, [] => o = 0
  | o, w :: l => 0 ≤ o + opn w ∧ okSeg (o + opn w) l
def noTop (by_ : Bytes) : Int → List Bytes → Prop
  | _, [] => True
  | o, w :: l => ¬ (o + opn w = 0 ∧ w = by_) ∧ noTop by_ (o + opn w) l
theorem partS_app {by_ : Bytes} : ∀ (u r : List Bytes) (o : Int) (cur : List Bytes), okSeg o u → noTop by_ o u → partS by_ o cur (u ++ r) = partS by_ 0 (cur ++ u) r
  | [], r, o, cur, ho, _ => by rw [show o = 0 from ho]; simp
  | w :: u, r, o, cur, ho, hn => by
    rw [List.cons_append, partS, if_neg hn.1, partS_app u r _ _ ho.2 hn.2]; simp
theorem okSeg_app : ∀ (u v : List Bytes) (o : Int), okSeg o u → okSeg 0 v → okSeg o (u ++ v)
  | [], v, o, h, hv => by rw [show o = 0 from h]; exact hv
  | w :: u, v, o, h, hv => ⟨h.1, okSeg_app u v _ h.2 hv⟩
theorem noTop_app {by_ : Bytes} : ∀ (u v : List Bytes) (o : Int), okSeg o u → noTop by_ o u → noTop by_ 0 v → noTop by_ o (u ++ v)
  | [], v, o, h, _, hv => by rw [show o = 0 from h]; exact hv
  | w :: u, v, o, h, hn, hv => ⟨hn.1, noTop_app u v _ h.2 hn.2 hv⟩
theorem okSeg_up : ∀ (u r : List Bytes) (o : Int), okSeg o u → 0 ≤ o → ∀ c : Int, 1 ≤ c → (∀ by_ : Bytes, noTop by_ 0 r → okSeg 0 r → True) → okSeg c r → okSeg (o + c) (u ++ r)
  | [], r, o, h, _, c, _, _, hr => by rw [show o = 0 from h, Int.zero_add]; exact hr
  | w :: u, r, o, h, h0, c, hc, _, hr => by
    refine ⟨?_, ?_⟩
    · have := h.1; omega
    · rw [show o + c + opn w = (o + opn w) + c by omega]
      exact okSeg_up u r _ h.2 h.1 c hc (fun _ _ _ => trivial) hr
theorem noTop_up {by_ : Bytes} : ∀ (u r : List Bytes) (o : Int), okSeg o u → 0 ≤ o → ∀ c : Int, 1 ≤ c → noTop by_ c r → noTop by_ (o + c) (u ++ r)
  | [], r, o, h, _, c, _, hr => by rw [show o = 0 from h, Int.zero_add]; exact hr
  | w :: u, r, o, h, h0, c, hc, hr => by
    refine ⟨fun hh => ?_, ?_⟩
    · have := h.1; omega
    · rw [show o + c + opn w = (o + opn w) + c by omega]
      exact noTop_up u r _ h.2 h.1 c hc hr
theorem closes_up : ∀ (u : List Bytes) (o : Int), okSeg o u → 0 ≤ o → closesB (o + 1) (u ++ [[41]]) = true
  | [], o, h, _ => by
    rw [show o = 0 from h]; rfl
  | w :: u, o, h, h0 => by
    rw [List.cons_append, closesB, if_neg (by have := h.1; omega), show o + 1 + opn w = (o + opn w) + 1 by omega]
    exact closes_up u _ h.2 h.1
theorem opn40 : opn [40] = 1 := rfl
theorem opn41 : opn [41] = -1 := rfl
theorem opn_other {w : Bytes} (h1 : w ≠ [40]) (h2 : w ≠ [41]) : opn w = 0 := by unfold opn; rw [if_neg h1, if_neg h2]; rfl
theorem brackets {mid : List Bytes} (h : okSeg 0 mid) (hne : mid ≠ []) : okSeg 0 ([40] :: (mid ++ [[41]])) ∧ (∀ by_, by_ ≠ [40] → by_ ≠ [41] → noTop by_ 0 ([40] :: (mid ++ [[41]]))) ∧ closesB 0 ([40] :: (mid ++ [[41]])) = true := by
  refine ⟨⟨by rw [opn40]; omega, ?_⟩, fun by_ h1 h2 => ⟨fun hh => h1 hh.2.symm, ?_⟩, ?_⟩
  · rw [opn40]
    exact okSeg_up mid [[41]] 0 h (Int.le_refl _) 1 (Int.le_refl _) (fun _ _ _ => trivial) ⟨by rw [opn41]; omega, by rw [opn41]; rfl⟩
  · rw [opn40]
    exact noTop_up mid [[41]] 0 h (Int.le_refl _) 1 (Int.le_refl _) ⟨fun hh => h2 hh.2.symm, trivial⟩
  · rw [closesB, opn40, if_neg (by omega)]
    exact closes_up mid 0 h (Int.le_refl _)
theorem closes_last : ∀ (l : List Bytes) (o : Int), 1 ≤ o → closesB o l = true → ∃ m, l = m ++ [[41]]
  | [], o, _, h => by cases h
  | w :: l, o, ho, h => by
    rw [closesB] at h
    split at h
    · rename_i h0
      have : w = [41] := by
        unfold opn at h0
        by_cases h41 : w = [41]
        · exact h41
        · rw [if_neg h41] at h0
          split at h0 <;> omega
      cases l with
      | nil => exact ⟨[], by rw [this]; rfl⟩
      | cons _ _ => cases h
    · rename_i h0
      have h1 : 1 ≤ o + opn w := by
        unfold opn at h0 ⊢
        by_cases h41 : w = [41]
        · subst h41
          rw [if_neg (by decide), if_pos rfl] at h0 ⊢
          omega
        · rw [if_neg h41] at h0 ⊢
          split at h0 <;> split <;> omega
      obtain ⟨m, rfl⟩ := closes_last l _ h1 h
      exact ⟨w :: m, rfl⟩
theorem leaf33 : leafX [33] = zeroX := leaf_op rfl rfl rfl rfl
theorem leaf40 : leafX [40] = zeroX := leaf_op rfl rfl rfl rfl
theorem leaf41 : leafX [41] = zeroX := leaf_op rfl rfl rfl rfl
theorem leaf38 : leafX [38] = zeroX := leaf_op rfl rfl rfl rfl
theorem leaf124 : leafX [124] = zeroX := leaf_op rfl rfl rfl rfl
theorem boundF_cons (wh : List Bytes → S_Expr) (m : Nat) (w : Bytes) (l : List Bytes) : boundF wh (m + 1) (w :: l) = if w = [33] then (if (boundF wh m l).Kind = 0 then zeroX else S_Expr.mk 4 0 [] [] [boundF wh m l])
    else if w = [40] then (if 2 < l.length + 1 ∧ closesB 0 (w :: l) = true then wh (l.take (l.length - 1)) else zeroX)
    else match l with
      | [] => leafX w
      | [g, w2] => if isSignB g = true then (if (leafX w).Kind = 0 ∨ (leafX w2).Kind = 0 then zeroX else S_Expr.mk 7 0 [] g [leafX w, leafX w2]) else zeroX
      | _ => zeroX := by rw [boundF.eq_def]
/-! ### What the program's reads, the document's does -/
/-- A piece, read by the document's as this. -/
structure Snd (f : List Bytes → S_Expr) (l : List Bytes) (x : S_Expr) (r : List Bytes) (tops : List Bytes) (u : List Bytes) : Prop where
  eq : l = u ++ r
  val : f u = x
  kind : x.Kind ≠ 0
  ok : okSeg 0 u
  top : ∀ b, b ∈ tops → noTop b 0 u
  ne : u ≠ []
theorem leaf_top {w : Bytes} (h : (leafX w).Kind ≠ 0) : w ≠ [33] ∧ w ≠ [40] ∧ w ≠ [41] ∧ w ≠ [38] ∧ w ≠ [124] := by
  refine ⟨?_, ?_, ?_, ?_, ?_⟩ <;> intro he <;> subst he <;> refine h ?_
  · rw [leaf33]; rfl
  · rw [leaf40]; rfl
  · rw [leaf41]; rfl
  · rw [leaf38]; rfl
  · rw [leaf124]; rfl
theorem sign_top {g : Bytes} (h : isSignB g = true) : g ≠ [40] ∧ g ≠ [41] ∧ g ≠ [38] ∧ g ≠ [124] := by
  refine ⟨?_, ?_, ?_, ?_⟩ <;> intro he <;> subst he <;> exact absurd h (by decide)
theorem plain_ok {w : Bytes} (h1 : w ≠ [40]) (h2 : w ≠ [41]) {l : List Bytes} (hl : okSeg 0 l) : okSeg 0 (w :: l) := by
  refine ⟨?_, ?_⟩ <;> rw [opn_other h1 h2]
  · exact Int.le_refl _
  · exact hl
theorem plain_top {w b : Bytes} (h1 : w ≠ [40]) (h2 : w ≠ [41]) (hb : w ≠ b) {l : List Bytes} (hl : noTop b 0 l) : noTop b 0 (w :: l) := by
  refine ⟨fun hh => hb hh.2, ?_⟩
  rw [opn_other h1 h2]; exact hl
theorem one_snd {any : List Bytes → Res} {wh : List Bytes → S_Expr} (hany : ∀ l x r, any l = some (x, r) → ∃ u, Snd wh l x r [] u) :
    ∀ (m : Nat) (l : List Bytes) (x : S_Expr) (r : List Bytes), pOne any m l = some (x, r) → ∃ u, Snd (fun u => boundF wh (u.length + 1) u) l x r [[124], [38]] u ∧ ∀ M, u.length < M → boundF wh M u = x := by
  intro m
  induction m with
  | zero => intro l x r h; cases h
  | succ m ih =>
    intro l x r h
    cases l with
    | nil => cases h
    | cons w l =>
    rw [pOne_cons] at h
    by_cases h33 : w = [33]
    · rw [if_pos h33] at h
      cases hp : pOne any m l with
      | none => rw [hp] at h; cases h
      | some p =>
        rw [hp] at h
        obtain ⟨y, r'⟩ := p
        cases h
        obtain ⟨u, hu, huM⟩ := ih l y r' hp
        have hM : ∀ M, (w :: u).length < M → boundF wh M (w :: u) = S_Expr.mk 4 0 [] [] [y] := fun M hM => by
          obtain ⟨M, rfl⟩ : ∃ M', M = M' + 1 := ⟨M - 1, by omega⟩
          rw [List.length_cons] at hM
          rw [boundF_cons, if_pos h33, huM M (by omega), if_neg hu.kind]
        refine ⟨w :: u, ⟨by rw [hu.eq]; rfl, hM _ (by omega), (show (4 : Int) ≠ 0 by decide), plain_ok (by rw [h33]; decide) (by rw [h33]; decide) hu.ok, fun b hb => plain_top (by rw [h33]; decide) (by rw [h33]; decide) ?_ (hu.top b hb), by simp⟩, hM⟩
        rw [h33]
        intro he
        subst he
        exact absurd hb (by decide)
    · rw [if_neg h33] at h
      by_cases h40 : w = [40]
      · rw [if_pos h40] at h
        cases hp : any l with
        | none => rw [hp] at h; cases h
        | some p =>
          rw [hp] at h
          obtain ⟨y, r'⟩ := p
          cases r' with
          | nil => cases h
          | cons c r' =>
            dsimp only at h
            by_cases hc : c = [41]
            · rw [if_pos hc] at h
              cases h
              obtain ⟨mid, hm⟩ := hany l x (c :: r) hp
              obtain ⟨b1, b2, b3⟩ := brackets hm.ok hm.ne
              have hml : 1 ≤ mid.length := by
                cases mid with
                | nil => exact absurd rfl hm.ne
                | cons => simp
              have hM : ∀ M, (w :: (mid ++ [[41]])).length < M → boundF wh M (w :: (mid ++ [[41]])) = x := fun M hM => by
                obtain ⟨M, rfl⟩ : ∃ M', M = M' + 1 := ⟨M - 1, by omega⟩
                rw [boundF_cons, if_neg h33, if_pos h40, h40, if_pos ⟨by simp; omega, b3⟩]
                rw [List.length_append, List.length_singleton, Nat.add_sub_cancel, List.take_left' rfl]
                exact hm.val
              refine ⟨w :: (mid ++ [[41]]), ⟨by rw [hm.eq, hc]; simp, hM _ (by omega), hm.kind, by rw [h40]; exact b1, fun b hb => ?_, by simp⟩, hM⟩
              rw [h40]
              refine b2 b ?_ ?_ <;> intro he <;> subst he <;> exact absurd hb (by decide)
            · rw [if_neg hc] at h; cases h
      · rw [if_neg h40] at h
        by_cases hk : (leafX w).Kind = 0
        · rw [if_pos hk] at h; cases h
        · rw [if_neg hk] at h
          have ht := leaf_top hk
          have solo : ∀ M, ([w] : List Bytes).length < M → boundF wh M [w] = leafX w := fun M hM => by
            obtain ⟨M, rfl⟩ : ∃ M', M = M' + 1 := ⟨M - 1, by omega⟩
            rw [boundF_cons, if_neg h33, if_neg h40]
          have soloS : ∀ (r : List Bytes), Snd (fun u => boundF wh (u.length + 1) u) (w :: r) (leafX w) r [[124], [38]] [w] := fun r =>
            ⟨rfl, solo _ (by simp), hk, plain_ok ht.2.1 ht.2.2.1 rfl, fun b hb => plain_top ht.2.1 ht.2.2.1 (by
              intro he
              subst he
              simp only [List.mem_cons, List.mem_nil_iff, or_false] at hb
              rcases hb with hb | hb
              · exact ht.2.2.2.2 hb
              · exact ht.2.2.2.1 hb) trivial, by simp⟩
          cases l with
          | nil => cases h; exact ⟨[w], soloS [], solo⟩
          | cons g l2 =>
            dsimp only at h
            by_cases hg : isSignB g = true
            · rw [if_pos hg] at h
              cases l2 with
              | nil => cases h
              | cons w2 r2 =>
                dsimp only at h
                by_cases hk2 : (leafX w2).Kind = 0
                · rw [if_pos hk2] at h; cases h
                · rw [if_neg hk2] at h
                  cases h
                  have ht2 := leaf_top hk2
                  have hgt := sign_top hg
                  have hM : ∀ M, ([w, g, w2] : List Bytes).length < M → boundF wh M [w, g, w2] = S_Expr.mk 7 0 [] g [leafX w, leafX w2] := fun M hM => by
                    obtain ⟨M, rfl⟩ : ∃ M', M = M' + 1 := ⟨M - 1, by omega⟩
                    rw [boundF_cons, if_neg h33, if_neg h40]
                    dsimp only
                    rw [if_pos hg, if_neg (fun hh => hh.elim hk hk2)]
                  refine ⟨[w, g, w2], ⟨rfl, hM _ (by simp), (show (7 : Int) ≠ 0 by decide), plain_ok ht.2.1 ht.2.2.1 (plain_ok hgt.1 hgt.2.1 (plain_ok ht2.2.1 ht2.2.2.1 rfl)), fun b hb => ?_, by simp⟩, hM⟩
                  simp only [List.mem_cons, List.mem_nil_iff, or_false] at hb
                  rcases hb with hb | hb <;> subst hb
                  · exact plain_top ht.2.1 ht.2.2.1 ht.2.2.2.2 (plain_top hgt.1 hgt.2.1 hgt.2.2.2 (plain_top ht2.2.1 ht2.2.2.1 ht2.2.2.2.2 trivial))
                  · exact plain_top ht.2.1 ht.2.2.1 ht.2.2.2.1 (plain_top hgt.1 hgt.2.1 hgt.2.2.1 (plain_top ht2.2.1 ht2.2.2.1 ht2.2.2.2.1 trivial))
            · rw [if_neg hg] at h
              cases h
              exact ⟨[w], soloS _, solo⟩
end Go.Proofs.YtdobepgddhbncaaGreatDoor
namespace Go.Proofs.YtdobepgddhbncaaGreatDoor
open Go Go.Pm
set_option linter.unusedSimpArgs false
set_option linter.unusedVariables false
def glue (by_ : Bytes) (us : List (List Bytes)) : List Bytes := us.flatMap fun u => by_ :: u
theorem glue_cons (by_ : Bytes) (u : List Bytes) (us : List (List Bytes)) : glue by_ (u :: us) = by_ :: (u ++ glue by_ us) := by unfold glue; rw [List.flatMap_cons]; rfl
theorem glue_nil (by_ : Bytes) : glue by_ [] = [] := rfl
theorem joinT_glue (by_ : Bytes) : ∀ (p : List Bytes) (ps : List (List Bytes)), joinT by_ (p :: ps) = p ++ glue by_ ps
  | p, [] => by rw [glue_nil, List.append_nil]; rfl
  | p, q :: ps => by rw [joinT, joinT_glue by_ q ps, glue_cons]
theorem parts_glue {by_ : Bytes} (h1 : by_ ≠ [40]) (h2 : by_ ≠ [41]) : ∀ (us : List (List Bytes)) (u cur : List Bytes), okSeg 0 u → noTop by_ 0 u → (∀ v, v ∈ us → okSeg 0 v ∧ noTop by_ 0 v) → partS by_ 0 cur (u ++ glue by_ us) = (cur ++ u) :: us
  | [], u, cur, hu, hn, _ => by
    rw [partS_app u _ 0 cur hu hn, glue_nil]; rfl
  | v :: us, u, cur, hu, hn, hv => by
    have h3 := hv v (List.mem_cons_self ..)
    rw [partS_app u _ 0 cur hu hn, glue_cons, partS, opn_other h1 h2, if_pos ⟨rfl, rfl⟩, Int.zero_add, parts_glue h1 h2 us v [] h3.1 h3.2 fun w hw => hv w (List.mem_cons_of_mem _ hw)]
    rfl
section
variable {one : List Bytes → Res} {f : List Bytes → S_Expr} {by_ : Bytes} (h1 : by_ ≠ [40]) (h2 : by_ ≠ [41]) {tops : List Bytes} {n : Nat}
  (hone : ∀ l x r, l.length ≤ n → one l = some (x, r) → ∃ u, Snd f l x r (by_ :: tops) u)
include h1 h2 hone
omit h1 h2 in
theorem more_snd : ∀ (m : Nat) (l : List Bytes) (xs : List S_Expr) (r : List Bytes), l.length ≤ n → pMore one by_ m l = some (xs, r) → ∃ us, l = glue by_ us ++ r ∧ us.map f = xs ∧ (∀ x, x ∈ xs → x.Kind ≠ 0) ∧ ∀ v, v ∈ us → okSeg 0 v ∧ noTop by_ 0 v ∧ ∀ b, b ∈ tops → noTop b 0 v := by
  intro m
  induction m with
  | zero => intro l xs r _ h; cases h
  | succ m ih =>
    intro l xs r hl h
    cases l with
    | nil => cases h; exact ⟨[], rfl, rfl, fun x hx => (by cases hx), fun v hv => by cases hv⟩
    | cons w l =>
      rw [pMore] at h
      by_cases hw : w = by_
      · rw [if_pos hw] at h
        cases hp : one l with
        | none => rw [hp] at h; cases h
        | some p =>
          obtain ⟨x, r1⟩ := p
          rw [hp] at h
          dsimp only at h
          cases hq : pMore one by_ m r1 with
          | none => rw [hq] at h; cases h
          | some q =>
            obtain ⟨ys, r2⟩ := q
            rw [hq] at h
            cases h
            rw [List.length_cons] at hl
            obtain ⟨u, hu⟩ := hone l x r1 (by omega) hp
            have hr1 : r1.length ≤ n := by have := congrArg List.length hu.eq; rw [List.length_append] at this; omega
            obtain ⟨us, g1, g2, g3, g4⟩ := ih r1 ys r2 hr1 hq
            refine ⟨u :: us, ?_, ?_, ?_, ?_⟩
            · rw [glue_cons, hw, hu.eq, g1]; simp
            · rw [List.map_cons, hu.val, g2]
            · intro y hy
              rcases List.mem_cons.1 hy with rfl | hy
              · exact hu.kind
              · exact g3 y hy
            · intro v hv
              rcases List.mem_cons.1 hv with rfl | hv
              · exact ⟨hu.ok, hu.top _ (List.mem_cons_self ..), fun b hb => hu.top b (List.mem_cons_of_mem _ hb)⟩
              · exact g4 v hv
      · rw [if_neg hw] at h
        cases h
        exact ⟨[], rfl, rfl, fun x hx => (by cases hx), fun v hv => by cases hv⟩
omit hone in
theorem glue_ok : ∀ (us : List (List Bytes)), (∀ v, v ∈ us → okSeg 0 v ∧ noTop by_ 0 v ∧ ∀ b, b ∈ tops → noTop b 0 v) → okSeg 0 (glue by_ us) ∧ ∀ b, b ∈ tops → by_ ≠ b → noTop b 0 (glue by_ us)
  | [], _ => ⟨rfl, fun _ _ _ => trivial⟩
  | u :: us, h => by
    obtain ⟨g1, g2⟩ := glue_ok us fun v hv => h v (List.mem_cons_of_mem _ hv)
    obtain ⟨k1, k2, k3⟩ := h u (List.mem_cons_self ..)
    rw [glue_cons]
    exact ⟨plain_ok h1 h2 (okSeg_app _ _ _ k1 g1), fun b hb hne => plain_top h1 h2 hne (noTop_app _ _ _ k1 (k3 b hb) (g2 b hb hne))⟩
omit h1 h2 hone in
theorem packX_kind {kind : Int} (hk : kind ≠ 0) {x : S_Expr} (hx : x.Kind ≠ 0) (xs : List S_Expr) : (packX kind x xs).Kind ≠ 0 := by
  unfold packX
  cases xs.isEmpty with
  | true => exact hx
  | false => exact hk
theorem row_snd {kind : Int} (hk : kind ≠ 0) (hbt : ∀ b, b ∈ tops → by_ ≠ b) (m : Nat) (l : List Bytes) (x : S_Expr) (r : List Bytes) (hl : l.length ≤ n) (h : pRow one kind by_ m l = some (x, r)) : ∃ u, Snd (rowX by_ f kind) l x r tops u := by
  unfold pRow at h
  cases hp : one l with
  | none => rw [hp] at h; cases h
  | some p =>
    obtain ⟨x0, r1⟩ := p
    rw [hp] at h
    dsimp only at h
    cases hq : pMore one by_ m r1 with
    | none => rw [hq] at h; cases h
    | some q =>
      obtain ⟨ys, r2⟩ := q
      rw [hq] at h
      cases h
      obtain ⟨u, hu⟩ := hone l x0 r1 hl hp
      have hr1 : r1.length ≤ n := by have := congrArg List.length hu.eq; rw [List.length_append] at this; omega
      obtain ⟨us, g1, g2, g3, g4⟩ := more_snd hone m r1 ys r hr1 hq
      obtain ⟨k1, k2⟩ := glue_ok h1 h2 us g4
      have hparts : partS by_ 0 [] (u ++ glue by_ us) = u :: us := parts_glue h1 h2 us u [] hu.ok (hu.top _ (List.mem_cons_self ..)) fun v hv => ⟨(g4 v hv).1, (g4 v hv).2.1⟩
      refine ⟨u ++ glue by_ us, by rw [hu.eq, g1]; simp, ?_, packX_kind hk hu.kind ys, okSeg_app _ _ _ hu.ok k1, fun b hb => noTop_app _ _ _ hu.ok (hu.top b (List.mem_cons_of_mem _ hb)) (k2 b hb (hbt b hb)), ?_⟩
      · unfold rowX
        rw [hparts, if_neg ?_]
        · rw [List.map_cons, List.headD_cons, List.drop_succ_cons, List.drop_zero, hu.val, g2]
        · rw [Bool.not_eq_true, List.any_eq_false]
          intro p hp'
          rcases List.mem_cons.1 hp' with rfl | hp'
          · rw [hu.val]; simpa using hu.kind
          · have := g3 (f p) (by rw [← g2]; exact List.mem_map_of_mem hp')
            simpa using this
      · intro he
        exact hu.ne (List.append_eq_nil_iff.1 he).1
end
theorem any_snd : ∀ (n : Nat) (l : List Bytes) (x : S_Expr) (r : List Bytes) (m : Nat), l.length ≤ n → pAny m l = some (x, r) → ∃ u, Snd (wholeF (n + 1)) l x r [] u := by
  intro n
  induction n using Nat.strongRecOn with
  | _ n ih =>
  intro l x r m hl h
  cases m with
  | zero => cases h
  | succ m =>
  refine row_snd (by decide) (by decide) (tops := []) (n := n) (f := fun p => rowX [38] (boundF (wholeF n) (n + 1)) 5 p) (fun l2 x2 r2 hl2 h2 => ?_) (by decide) (fun b hb => by cases hb) (m + 1) l x r hl h
  refine row_snd (by decide) (by decide) (tops := [[124]]) (n := n) (f := boundF (wholeF n) (n + 1)) (fun l3 x3 r3 hl3 h3 => ?_) (by decide) (fun b hb => by rw [List.mem_singleton.1 hb]; decide) (m + 1) l2 x2 r2 hl2 h2
  -- a piece: what is in its brackets is shorter
  have key : ∀ (k : Nat) (l : List Bytes) (x : S_Expr) (r : List Bytes), l.length ≤ n → pOne (pAny m) k l = some (x, r) → ∃ u, Snd (boundF (wholeF n) (n + 1)) l x r [[124], [38]] u := by
    intro k
    intro l x r hl h
    obtain ⟨u, hu, huM⟩ := one_snd (any := fun l' => if l'.length < n then pAny m l' else none) (wh := wholeF n) (fun l' x' r' h' => by
      by_cases hln : l'.length < n
      · rw [if_pos hln] at h'
        obtain ⟨n', rfl⟩ : ∃ n', n = n' + 1 := ⟨n - 1, by omega⟩
        exact ih n' (by omega) l' x' r' m (by omega) h'
      · rw [if_neg hln] at h'; cases h') k l x r (by
        -- the same, as it looks at shorter rows only
        have same : ∀ (k : Nat) (l : List Bytes), l.length ≤ n → pOne (fun l' => if l'.length < n then pAny m l' else none) k l = pOne (pAny m) k l := by
          intro k
          induction k with
          | zero => intro l _; rfl
          | succ k ihk =>
            intro l hl
            cases l with
            | nil => rfl
            | cons w l =>
              rw [List.length_cons] at hl
              rw [pOne_cons, pOne_cons, ihk l (by omega), if_pos (show l.length < n by omega)]
        rw [same k l hl]; exact h)
    have hul : u.length ≤ n := by have := congrArg List.length hu.eq; rw [List.length_append] at this; omega
    exact ⟨u, hu.eq, huM (n + 1) (by omega), hu.kind, hu.ok, hu.top, hu.ne⟩
  obtain ⟨u, hu⟩ := key (m + 1) l3 x3 r3 hl3 h3
  exact ⟨u, hu.eq, hu.val, hu.kind, hu.ok, fun b hb => hu.top b (by
    simp only [List.mem_cons, List.mem_nil_iff, or_false] at hb ⊢
    exact hb.symm), hu.ne⟩
/-! ### What the document reads, the program does -/
def Fol (r : List Bytes) : Prop := r = [] ∨ ∃ w t, r = w :: t ∧ (w = [38] ∨ w = [124] ∨ w = [41])
theorem Fol.nosign {w : Bytes} (h : w = [38] ∨ w = [124] ∨ w = [41]) : isSignB w = false := by rcases h with rfl | rfl | rfl <;> decide
theorem bound_cmp {any : List Bytes → Res} {wh : List Bytes → S_Expr} : ∀ (k : Nat) (p : List Bytes), (∀ mid, mid.length < p.length → (wh mid).Kind ≠ 0 → ∀ t, any (mid ++ [41] :: t) = some (wh mid, [41] :: t)) → (boundF wh k p).Kind ≠ 0 → ∀ (j : Nat), p.length < j → ∀ r, Fol r → pOne any j (p ++ r) = some (boundF wh k p, r) := by
  intro k
  induction k with
  | zero => intro p _ h; exact absurd rfl h
  | succ k ih =>
    intro p hany h j hj r hr
    cases p with
    | nil => exact absurd rfl h
    | cons w l =>
    obtain ⟨j, rfl⟩ : ∃ j', j = j' + 1 := ⟨j - 1, by omega⟩
    rw [List.length_cons] at hj
    rw [boundF_cons] at h ⊢
    rw [List.cons_append, pOne_cons]
    by_cases h33 : w = [33]
    · rw [if_pos h33] at h ⊢
      rw [if_pos h33]
      by_cases hk : (boundF wh k l).Kind = 0
      · rw [if_pos hk] at h; exact absurd rfl h
      · rw [if_neg hk] at h ⊢
        rw [ih l (fun mid hm => hany mid (by rw [List.length_cons]; omega)) hk j (by omega) r hr]; rfl
    · rw [if_neg h33] at h ⊢
      rw [if_neg h33]
      by_cases h40 : w = [40]
      · rw [if_pos h40] at h ⊢
        rw [if_pos h40]
        by_cases hc : 2 < l.length + 1 ∧ closesB 0 (w :: l) = true
        · rw [if_pos hc] at h ⊢
          have hcl := hc.2
          rw [h40, closesB, opn40, if_neg (by omega)] at hcl
          obtain ⟨mid, rfl⟩ := closes_last l _ (by omega) hcl
          rw [List.length_append, List.length_singleton, Nat.add_sub_cancel, List.take_left' rfl] at h ⊢
          rw [List.append_assoc, List.cons_append, List.nil_append, hany mid (by rw [List.length_cons, List.length_append]; omega) h r]
          dsimp only
          rw [if_pos rfl]
        · rw [if_neg hc] at h; exact absurd rfl h
      · rw [if_neg h40] at h ⊢
        rw [if_neg h40]
        cases l with
        | nil =>
          rw [if_neg h]
          rcases hr with rfl | ⟨g, t, rfl, hg⟩
          · rfl
          · show (if isSignB g = true then _ else some (leafX w, g :: t)) = _
            rw [if_neg (by rw [Fol.nosign hg]; simp)]
        | cons g l2 =>
          cases l2 with
          | nil => exact absurd rfl h
          | cons w2 l3 =>
            cases l3 with
            | cons _ _ => exact absurd rfl h
            | nil =>
              dsimp only at h ⊢
              by_cases hg : isSignB g = true
              · rw [if_pos hg] at h ⊢
                by_cases hk : (leafX w).Kind = 0 ∨ (leafX w2).Kind = 0
                · rw [if_pos hk] at h; exact absurd rfl h
                · rw [if_neg hk] at h ⊢
                  rw [if_neg (fun e => hk (.inl e))]
                  show (if isSignB g = true then (if (leafX w2).Kind = 0 then none else some (S_Expr.mk 7 0 [] g [leafX w, leafX w2], r)) else _) = _
                  rw [if_pos hg, if_neg (fun e => hk (.inr e))]
              · rw [if_neg hg] at h; exact absurd rfl h
section
variable {one : List Bytes → Res} {f : List Bytes → S_Expr} {by_ : Bytes} {FolB : List Bytes → Prop} (hb : ∀ t, FolB (by_ :: t))
include hb
theorem more_cmp : ∀ (ps : List (List Bytes)), (∀ p, p ∈ ps → ∀ r, FolB r → one (p ++ r) = some (f p, r)) → ∀ (m : Nat), ps.length < m → ∀ r, FolB r → (∀ w t, r = w :: t → w ≠ by_) → pMore one by_ m (glue by_ ps ++ r) = some (ps.map f, r)
  | [], _, m, hm, r, hr, hn => by
    obtain ⟨m, rfl⟩ : ∃ m', m = m' + 1 := ⟨m - 1, by simp at hm; omega⟩
    rw [glue_nil, List.nil_append]
    cases r with
    | nil => rfl
    | cons w t => rw [pMore, if_neg (hn w t rfl)]; rfl
  | p :: ps, h, m, hm, r, hr, hn => by
    obtain ⟨m, rfl⟩ : ∃ m', m = m' + 1 := ⟨m - 1, by omega⟩
    rw [List.length_cons] at hm
    have hfol : FolB (glue by_ ps ++ r) := by
      cases ps with
      | nil => exact hr
      | cons q ps => rw [glue_cons]; exact hb _
    rw [glue_cons, List.cons_append, List.append_assoc, pMore, if_pos rfl, h p (List.mem_cons_self ..) _ hfol]
    dsimp only
    rw [more_cmp ps (fun q hq => h q (List.mem_cons_of_mem _ hq)) m (by omega) r hr hn]; rfl
theorem row_cmp {kind : Int} {u : List Bytes} (h : (rowX by_ f kind u).Kind ≠ 0) (hone : ∀ p, p.length ≤ u.length → (f p).Kind ≠ 0 → ∀ r, FolB r → one (p ++ r) = some (f p, r)) (m : Nat) (hm : u.length < m) (r : List Bytes)
    (hr : FolB r) (hn : ∀ w t, r = w :: t → w ≠ by_) : pRow one kind by_ m (u ++ r) = some (rowX by_ f kind u, r) := by
  unfold rowX at h ⊢
  obtain ⟨p, ps, hp⟩ := partS_ne by_ u 0 []
  have hj := partS_join by_ u 0 []
  rw [hp, joinT_glue, List.nil_append] at hj
  rw [hp] at h ⊢
  by_cases ha : (p :: ps).any (fun p => (f p).Kind == 0) = true
  · rw [if_pos ha] at h; exact absurd rfl h
  · rw [if_neg ha] at h ⊢
    rw [Bool.not_eq_true, List.any_eq_false] at ha
    have hlen : ∀ q, q ∈ p :: ps → q.length ≤ u.length := by
      have glen : ∀ (ps : List (List Bytes)) q, q ∈ ps → q.length ≤ (glue by_ ps).length := by
        intro ps
        induction ps with
        | nil => intro q hq; cases hq
        | cons a ps ih =>
          intro q hq
          rw [glue_cons, List.length_cons, List.length_append]
          rcases List.mem_cons.1 hq with rfl | hq
          · omega
          · have := ih q hq; omega
      intro q hq
      rw [← hj, List.length_append]
      rcases List.mem_cons.1 hq with rfl | hq
      · omega
      · have := glen ps q hq; omega
    have glc : ∀ (ps : List (List Bytes)), ps.length ≤ (glue by_ ps).length := by
      intro ps
      induction ps with
      | nil => exact Nat.le_refl _
      | cons a ps ih => rw [glue_cons, List.length_cons, List.length_cons, List.length_append]; omega
    have hps : ps.length < m := by
      have := glc ps
      have := congrArg List.length hj
      rw [List.length_append] at this
      omega
    have hk : ∀ q, q ∈ p :: ps → (f q).Kind ≠ 0 := fun q hq => by have := ha q hq; simpa using this
    have hfol : FolB (glue by_ ps ++ r) := by
      cases ps with
      | nil => exact hr
      | cons q ps => rw [glue_cons]; exact hb _
    unfold pRow
    conv => lhs; rw [← hj, List.append_assoc, hone p (hlen p (List.mem_cons_self ..)) (hk p (List.mem_cons_self ..)) _ hfol]
    dsimp only
    rw [more_cmp hb ps (fun q hq r hr => hone q (hlen q (List.mem_cons_of_mem _ hq)) (hk q (List.mem_cons_of_mem _ hq)) r hr) m hps r hr hn]
    rfl
end
def FolO (r : List Bytes) : Prop := r = [] ∨ ∃ w t, r = w :: t ∧ (w = [124] ∨ w = [41])
theorem any_cmp : ∀ (N : Nat) (u : List Bytes), u.length ≤ N → ∀ (n m : Nat), u.length < n → u.length < m → (wholeF n u).Kind ≠ 0 → ∀ r, (r = [] ∨ ∃ t, r = [41] :: t) → pAny m (u ++ r) = some (wholeF n u, r) := by
  intro N
  induction N using Nat.strongRecOn with
  | _ N ih =>
  intro u hu n m hn hm hk r hr
  obtain ⟨n, rfl⟩ : ∃ n', n = n' + 1 := ⟨n - 1, by omega⟩
  obtain ⟨m, rfl⟩ : ∃ m', m = m' + 1 := ⟨m - 1, by omega⟩
  refine row_cmp (FolB := FolO) (fun t => .inr ⟨[124], t, rfl, .inl rfl⟩) (f := fun p => rowX [38] (boundF (wholeF n) (n + 1)) 5 p) hk (fun p hp hpk r1 hr1 => ?_) (m + 1) (by omega) r ?_ ?_
  · refine row_cmp (FolB := Fol) (fun t => .inr ⟨[38], t, rfl, .inl rfl⟩) (f := boundF (wholeF n) (n + 1)) hpk (fun q hq hqk r2 hr2 => ?_) (m + 1) (by omega) r1 ?_ ?_
    · exact bound_cmp (n + 1) q (fun mid hmid hmk t => ih mid.length (by omega) mid (Nat.le_refl _) n m (by omega) (by omega) hmk _ (.inr ⟨t, rfl⟩)) hqk (m + 1) (by omega) r2 hr2
    · rcases hr1 with rfl | ⟨w, t, rfl, hw⟩
      · exact .inl rfl
      · exact .inr ⟨w, t, rfl, .inr hw⟩
    · intro w t e
      rcases hr1 with rfl | ⟨w', t', rfl, hw⟩
      · cases e
      · injection e with e _
        rw [← e]
        rcases hw with rfl | rfl <;> decide
  · rcases hr with rfl | ⟨t, rfl⟩
    · exact .inl rfl
    · exact .inr ⟨[41], t, rfl, .inr rfl⟩
  · intro w t e
    rcases hr with rfl | ⟨t', rfl⟩
    · cases e
    · injection e with e _
      rw [← e]; decide
theorem any_whole {l : List Bytes} {n m : Nat} (hn : l.length < n) (hm : l.length < m) (x : S_Expr) : pAny m l = some (x, []) ↔ (wholeF n l = x ∧ x.Kind ≠ 0) := by
  constructor
  · intro h
    obtain ⟨n, rfl⟩ : ∃ n', n = n' + 1 := ⟨n - 1, by omega⟩
    obtain ⟨u, hu⟩ := any_snd n l x [] m (by omega) h
    have := hu.eq
    rw [List.append_nil] at this
    subst this
    exact ⟨hu.val, hu.kind⟩
  · rintro ⟨rfl, hk⟩
    have := any_cmp l.length l (Nat.le_refl _) n m hn hm hk [] (.inl rfl)
    rwa [List.append_nil] at this
end Go.Proofs.YtdobepgddhbncaaGreatDoor
namespace Go.Proofs.YtdobepgddhbncaaGreatDoor
open Go Go.Pm
set_option linter.unusedSimpArgs false
set_option linter.unusedVariables false
theorem partS_small (by_ : Bytes) : ∀ (l : List Bytes) (o : Int) (cur : List Bytes), (partS by_ o cur l).length ≤ l.length + 1 ∧ ∀ p, p ∈ partS by_ o cur l → p.length ≤ cur.length + l.length ∧ ∀ w, w ∈ p → w ∈ cur ∨ w ∈ l
  | [], o, cur => by rw [partS]; exact ⟨by simp, fun p hp => by rw [List.mem_singleton.1 hp]; exact ⟨by simp, fun w hw => .inl hw⟩⟩
  | w :: l, o, cur => by
    rw [partS]
    split
    · obtain ⟨h1, h2⟩ := partS_small by_ l (o + opn w) []
      refine ⟨by rw [List.length_cons, List.length_cons]; omega, fun p hp => ?_⟩
      rcases List.mem_cons.1 hp with rfl | hp
      · exact ⟨by omega, fun w hw => .inl hw⟩
      · obtain ⟨h3, h4⟩ := h2 p hp
        rw [List.length_nil] at h3
        refine ⟨by rw [List.length_cons]; omega, fun v hv => ?_⟩
        rcases h4 v hv with h | h
        · cases h
        · exact .inr (List.mem_cons_of_mem _ h)
    · obtain ⟨h1, h2⟩ := partS_small by_ l (o + opn w) (cur ++ [w])
      refine ⟨by rw [List.length_cons]; omega, fun p hp => ?_⟩
      obtain ⟨h3, h4⟩ := h2 p hp
      rw [List.length_append, List.length_singleton] at h3
      refine ⟨by rw [List.length_cons]; omega, fun v hv => ?_⟩
      rcases h4 v hv with h | h
      · rcases List.mem_append.1 h with h | h
        · exact .inl h
        · rw [List.mem_singleton.1 h]; exact .inr (List.mem_cons_self ..)
      · exact .inr (List.mem_cons_of_mem _ h)
end Go.Proofs.YtdobepgddhbncaaGreatDoor
namespace Go.Proofs.YtdobepgddhbncaaGreatDoor
open Go Go.Pm
set_option linter.unusedSimpArgs false
set_option linter.unusedVariables false
structure TokS (w : Bytes) : Prop where
  good : TokG w
  quo : w.head? = some 39 → ∃ a, w = 39 :: (a ++ [39]) ∧ a.contains 39 = false
  ref : refN w > 0 → refN w = (w.length : Int)
theorem nxt_tokS {s w s' : Bytes} (hs : s.length ≤ 100000) (h : nxt s = some (w, s')) : TokS w := by
  have hg := nxt_tok hs h
  obtain ⟨_, h1, h2, _, h3, h4⟩ := lex_some h
  cases hu : skip s with
  | nil => rw [hu] at h4; exact absurd rfl h4
  | cons c t =>
    rw [hu] at h3 h4
    have hwn := wordN_cons c t
    refine ⟨hg, fun hq => ?_, fun hr => ?_⟩
    · have hc : c = 39 := by
        rw [h3, List.head?_take, if_neg h4] at hq
        injection hq
      subst hc
      rw [show ((39 : UInt8) == 39) = true from rfl, cond_true] at hwn
      cases hcc : (cutC 39 t).2.2 with
      | false => rw [hcc, cond_false] at hwn; exact absurd hwn h4
      | true =>
        rw [hcc, cond_true] at hwn
        refine ⟨(cutC 39 t).1, ?_, cutC_pre 39 t hcc⟩
        rw [h3, hwn, List.take_succ_cons]
        congr 1
        conv => lhs; arg 2; rw [cutC_back 39 t hcc]
        rw [show (cutC 39 t).1 ++ 39 :: (cutC 39 t).2.1 = ((cutC 39 t).1 ++ [39]) ++ (cutC 39 t).2.1 by simp, List.take_left' (by simp)]
    · have h36 : c = 36 := by
        cases hh : hasPre w [36] with
        | false => rw [refN_none hh] at hr; omega
        | true =>
          obtain ⟨t', ht'⟩ := pre_split hh
          obtain ⟨k, hk⟩ : ∃ k, wordN (c :: t) = k + 1 := ⟨wordN (c :: t) - 1, by omega⟩
          rw [h3, hk, List.take_succ_cons] at ht'
          injection ht'
      subst h36
      cases hr0 : decide (refN (36 :: t) > 0) with
      | false =>
        exfalso
        rw [hr0] at hwn
        have : wordN (36 :: t) = 0 := by
          rw [hwn]
          show (bif (t.head? == some 61) && false then 2 else 0) = 0
          rw [Bool.and_false]; rfl
        exact h4 this
      | true =>
        obtain ⟨p, v, hp, e1, e2⟩ := refN_spec (of_decide_eq_true hr0)
        have hw : wordN (36 :: t) = p.length := by
          rw [hwn, hr0]
          show (refN (36 :: t)).toNat = _
          rw [e2]; simp
        have hwp : w = p := by rw [h3, hw, e1, List.take_left' rfl]
        have := refN_at hp []
        rw [List.append_nil] at this
        rw [hwp, this]
theorem lex_tok : ∀ (n : Nat) (s : Bytes), s.length ≤ n → s.length ≤ 100000 → ∀ w, w ∈ (lexW s).1 → TokS w := by
  intro n
  induction n with
  | zero =>
    intro s hs _ w hw
    have : s = [] := List.eq_nil_of_length_eq_zero (by omega)
    subst this
    rw [lexW_nil] at hw; cases hw
  | succ n ih =>
    intro s hs hb w hw
    cases hn : nxt s with
    | none => rw [lex_none hn] at hw; cases hw
    | some p =>
      obtain ⟨w', s'⟩ := p
      obtain ⟨hl, _, _, hlen, _⟩ := lex_some hn
      rw [hl] at hw
      rcases List.mem_cons.1 hw with rfl | hw
      · exact nxt_tokS hb hn
      · exact ih s' (by omega) (by omega) w hw
theorem lex_count : ∀ (n : Nat) (s : Bytes), s.length ≤ n → (lexW s).1.length ≤ s.length := by
  intro n
  induction n with
  | zero =>
    intro s hs
    have : s = [] := List.eq_nil_of_length_eq_zero (by omega)
    subst this
    rw [lexW_nil]; exact Nat.le_refl _
  | succ n ih =>
    intro s hs
    cases hn : nxt s with
    | none => rw [lex_none hn]; simp
    | some p =>
      obtain ⟨w', s'⟩ := p
      obtain ⟨hl, _, _, hlen, _⟩ := lex_some hn
      rw [hl, List.length_cons]
      have := ih s' (by omega)
      show (lexW s').1.length + 1 ≤ _
      omega
/-! ### What is read is built as it must be -/
def Fine (x : S_Expr) : Prop := wl x = true ∧ KOk x
theorem sgn_range (w : Bytes) : -1099511627776 ≤ (sgn w).1 ∧ (sgn w).1 ≤ 1099511627776 := by
  unfold sgn
  have h1 := dec_range w
  have h2 := dec_range (w.drop 1)
  cases hasPre w [45] with
  | true => dsimp only [cond_true]; omega
  | false => dsimp only [cond_false]; omega
theorem leaf_fine {w : Bytes} (h : TokS w) (hk : (leafX w).Kind ≠ 0) : Fine (leafX w) ∧ simpB (leafX w) = true := by
  have hm : w.length ≤ maxLen := by have := h.good.len; unfold maxLen; omega
  have mk : ∀ (k n : Int) (t : Bytes), t.length ≤ maxLen → simpB (S_Expr.mk k n t [] []) = true → leafB (S_Expr.mk k n t [] []) = true → Fine (S_Expr.mk k n t [] []) ∧ simpB (S_Expr.mk k n t [] []) = true := fun k n t ht h1 h2 =>
    ⟨⟨by rw [wl_eq, h1, cond_true, h2], .mk _ (Nat.zero_le _) (fun k hk => by cases hk) ht⟩, h1⟩
  unfold leafX at hk ⊢
  cases h39 : w.head? == some 39 with
  | true =>
    obtain ⟨a, ha, hc⟩ := h.quo (eq_of_beq h39)
    rw [cond_true]
    have e : ((w.drop 1).take (w.length - 2)) = a := by
      rw [ha]
      simp only [List.drop_succ_cons, List.drop_zero, List.length_cons, List.length_append, List.length_nil]
      rw [show a.length + (0 + 1) + 1 - 2 = a.length by omega, List.take_left' rfl]
    rw [e]
    have hal : a.length ≤ maxLen := by
      have := congrArg List.length ha
      simp at this
      have : w.length ≤ maxLen := hm
      omega
    refine mk 2 0 a hal rfl ?_
    show (true && true && (true && !(a.contains 39))) = true
    rw [hc]; rfl
  | false =>
    rw [h39, cond_false] at hk
    rw [cond_false]
    cases hr : decide (refN w > 0) with
    | true =>
      rw [cond_true]
      refine mk 3 0 w hm rfl ?_
      show (true && true && (true && decide (refN w > 0) && (refN w == (w.length : Int)))) = true
      rw [hr, h.ref (of_decide_eq_true hr)]; simp
    | false =>
      rw [hr, cond_false] at hk
      rw [cond_false]
      cases hs : (sgn w).2 == 0 with
      | false => rw [hs] at hk; exact absurd rfl hk
      | true =>
        rw [cond_true]
        have hrg := sgn_range w
        refine mk 1 (sgn w).1 [] (Nat.zero_le _) rfl ?_
        show (true && true && (true && decide ((sgn w).1 ≥ -1099511627776) && decide ((sgn w).1 ≤ 1099511627776))) = true
        rw [decide_eq_true hrg.1, decide_eq_true hrg.2]; rfl
theorem fine_node {k : Int} {s : Bytes} {kids : List S_Expr} (hs : simpB (S_Expr.mk k 0 [] s kids) = false) (hn : nodeB (S_Expr.mk k 0 [] s kids) = true) (hl : kids.length ≤ maxLen) (h : ∀ x, x ∈ kids → Fine x) : Fine (S_Expr.mk k 0 [] s kids) := by
  refine ⟨?_, .mk _ hl (fun x hx => (h x hx).2) (Nat.zero_le _)⟩
  rw [wl_eq, hs, cond_false, hn, wls_all]
  have : kids.all wl = true := List.all_eq_true.2 fun x hx => (h x hx).1
  show (true && true && kids.all wl && true) = true
  rw [this]; rfl
theorem bound_fine {wh : List Bytes → S_Expr} (hw : ∀ l, l.length ≤ 100000 → (∀ w, w ∈ l → TokS w) → (wh l).Kind ≠ 0 → Fine (wh l)) : ∀ (m : Nat) (l : List Bytes), l.length ≤ 100000 → (∀ w, w ∈ l → TokS w) → (boundF wh m l).Kind ≠ 0 → Fine (boundF wh m l) := by
  intro m
  induction m with
  | zero => intro l _ _ h; exact absurd rfl h
  | succ m ih =>
    intro l hl ht h
    cases l with
    | nil => exact absurd rfl h
    | cons w l =>
      rw [List.length_cons] at hl
      have htl : ∀ x, x ∈ l → TokS x := fun x hx => ht x (List.mem_cons_of_mem _ hx)
      rw [boundF_cons] at h ⊢
      by_cases h33 : w = [33]
      · rw [if_pos h33] at h ⊢
        by_cases hk : (boundF wh m l).Kind = 0
        · rw [if_pos hk] at h; exact absurd rfl h
        · rw [if_neg hk]
          exact fine_node rfl rfl (by simp [maxLen]) fun x hx => by rw [List.mem_singleton.1 hx]; exact ih l (by omega) htl hk
      · rw [if_neg h33] at h ⊢
        by_cases h40 : w = [40]
        · rw [if_pos h40] at h ⊢
          by_cases hc : 2 < l.length + 1 ∧ closesB 0 (w :: l) = true
          · rw [if_pos hc] at h ⊢
            exact hw _ (by rw [List.length_take]; omega) (fun x hx => htl x (List.mem_of_mem_take hx)) h
          · rw [if_neg hc] at h; exact absurd rfl h
        · rw [if_neg h40] at h ⊢
          match l, htl with
          | [], _ => exact (leaf_fine (ht w (List.mem_cons_self ..)) h).1
          | [g], _ => exact absurd rfl h
          | [g, w2], htl =>
            dsimp only at h ⊢
            by_cases hg : isSignB g = true
            · rw [if_pos hg] at h ⊢
              by_cases hk : (leafX w).Kind = 0 ∨ (leafX w2).Kind = 0
              · rw [if_pos hk] at h; exact absurd rfl h
              · rw [if_neg hk]
                have f1 := leaf_fine (ht w (List.mem_cons_self ..)) (fun e => hk (.inl e))
                have f2 := leaf_fine (htl w2 (by simp)) (fun e => hk (.inr e))
                refine fine_node rfl ?_ (by simp [maxLen]) fun x hx => ?_
                · show (isSignB g && true && (simpB (leafX w) && (simpB (leafX w2) && true))) = true
                  rw [hg, f1.2, f2.2]; rfl
                · rcases List.mem_cons.1 hx with rfl | hx
                  · exact f1.1
                  · rw [List.mem_singleton.1 hx]; exact f2.1
            · rw [if_neg hg] at h; exact absurd rfl h
          | g :: w2 :: a :: b, _ => exact absurd rfl h
theorem row_fine {by_ : Bytes} {f : List Bytes → S_Expr} {kind : Int} (hkk : kind = 5 ∨ kind = 6) {l : List Bytes} (hl : l.length ≤ 100000) (hf : ∀ p, p.length ≤ l.length → (∀ w, w ∈ p → w ∈ l) → (f p).Kind ≠ 0 → Fine (f p)) (h : (rowX by_ f kind l).Kind ≠ 0) : Fine (rowX by_ f kind l) := by
  unfold rowX at h ⊢
  obtain ⟨q1, q2⟩ := partS_small by_ l 0 []
  obtain ⟨p, ps, hp⟩ := partS_ne by_ l 0 []
  rw [hp] at h q1 q2 ⊢
  by_cases ha : (p :: ps).any (fun p => (f p).Kind == 0) = true
  · rw [if_pos ha] at h; exact absurd rfl h
  · rw [if_neg ha]
    rw [Bool.not_eq_true, List.any_eq_false] at ha
    have each : ∀ q, q ∈ p :: ps → Fine (f q) := fun q hq => by
      obtain ⟨h1, h2⟩ := q2 q hq
      rw [List.length_nil] at h1
      exact hf q (by omega) (fun w hw => (h2 w hw).elim (fun h => by cases h) id) (by have := ha q hq; simpa using this)
    unfold packX
    cases ps with
    | nil => exact each p (List.mem_cons_self ..)
    | cons q ps =>
      show Fine (S_Expr.mk kind 0 [] [] (f p :: (q :: ps).map f))
      refine fine_node ?_ ?_ ?_ fun x hx => ?_
      · rcases hkk with rfl | rfl <;> rfl
      · rcases hkk with rfl | rfl <;> rfl
      · rw [List.length_cons, List.length_map]
        simp only [List.length_cons] at q1 ⊢
        unfold maxLen; omega
      · rcases List.mem_cons.1 hx with rfl | hx
        · exact each p (List.mem_cons_self ..)
        · obtain ⟨q', hq', rfl⟩ := List.mem_map.1 hx
          exact each q' (List.mem_cons_of_mem _ hq')
theorem whole_fine : ∀ (n : Nat) (l : List Bytes), l.length ≤ 100000 → (∀ w, w ∈ l → TokS w) → (wholeF n l).Kind ≠ 0 → Fine (wholeF n l) := by
  intro n
  induction n with
  | zero => intro l _ _ h; exact absurd rfl h
  | succ n ih =>
    intro l hl ht h
    refine row_fine (.inr rfl) hl (fun p hp hpw hpk => ?_) h
    refine row_fine (.inl rfl) (by omega) (fun q hq hqw hqk => ?_) hpk
    exact bound_fine ih _ q (by omega) (fun w hw => ht w (hpw w (hqw w hw))) hqk
/-! ### Texts, read -/
def parX (s : Bytes) : S_Expr × Int :=
  bif decide (s.length > 400) then (zeroX, 2) else
  bif !(lexW s).2 || ((wholeF ((lexW s).1.length + 1) (lexW s).1).Kind == 0) then (zeroX, 50) else
  bif !decide (sz (wholeF ((lexW s).1.length + 1) (lexW s).1) ≤ 60) then (zeroX, 4) else
  bif decide (dp (wholeF ((lexW s).1.length + 1) (lexW s).1) > 16) then (zeroX, 5) else (wholeF ((lexW s).1.length + 1) (lexW s).1, 0)
theorem progParse_eq (s : Bytes) : expr_Parse s = some (parX s) := by
  unfold expr_Parse parX
  have e : decide ((s.length : Int) > (400 : Int)) = decide (s.length > 400) := by rw [Bool.eq_iff_iff, decide_eq_true_eq, decide_eq_true_eq]; omega
  rw [e]
  by_cases h4 : s.length > 400
  · rw [decide_eq_true h4]; rfl
  · rw [decide_eq_false h4, cond_false, cond_false]
    have hcnt := lex_count s.length s (Nat.le_refl _)
    obtain ⟨y, st, h1, h2⟩ := any_sim 1000 1000000 s (by omega) (by omega) (by omega)
    rw [show expr_parser_any (S_expr_parser.mk s false) = _ from h1, Option.bind_some, blanks_eq, Option.bind_some]
    have hbad : ∀ (b : Bool) (s2 : Bytes), (b || !(skip s2 == ([] : Bytes))) = true → (!(lexW s).2 || ((wholeF ((lexW s).1.length + 1) (lexW s).1).Kind == 0)) = true →
        (bif (bif b then true else (!(skip s2 == ([] : Bytes)))) then some ((S_Expr.mk (0 : Int) (0 : Int) ([] : Bytes) ([] : Bytes) ([] : List S_Expr)), (50 : Int)) else
          ((expr_few y).bind fun x3 => bif (!x3) then some ((S_Expr.mk (0 : Int) (0 : Int) ([] : Bytes) ([] : Bytes) ([] : List S_Expr)), (4 : Int)) else (expr_deep y).bind fun x4 => bif (decide (x4 > (16 : Int))) then some ((S_Expr.mk (0 : Int) (0 : Int) ([] : Bytes) ([] : Bytes) ([] : List S_Expr)), (5 : Int)) else some (y, (0 : Int)))) =
        some (bif !(lexW s).2 || ((wholeF ((lexW s).1.length + 1) (lexW s).1).Kind == 0) then (zeroX, 50) else
          bif !decide (sz (wholeF ((lexW s).1.length + 1) (lexW s).1) ≤ 60) then (zeroX, 4) else
          bif decide (dp (wholeF ((lexW s).1.length + 1) (lexW s).1) > 16) then (zeroX, 5) else (wholeF ((lexW s).1.length + 1) (lexW s).1, 0)) := fun b s2 hb h => by
      rw [h, cond_true]
      have : (bif b then true else (!(skip s2 == ([] : Bytes)))) = true := by
        cases b with
        | true => rfl
        | false => exact hb
      rw [this]; rfl
    cases hp : pAny 1000 (lexW s).1 with
    | none =>
      rw [hp] at h2
      dsimp only at h2
      refine hbad st.bad st.s (by rw [h2]; rfl) ?_
      by_cases hk : (wholeF ((lexW s).1.length + 1) (lexW s).1).Kind = 0
      · rw [hk]; simp
      · have := (any_whole (l := (lexW s).1) (n := (lexW s).1.length + 1) (m := 1000) (by omega) (by omega) _).2 ⟨rfl, hk⟩
        rw [hp] at this; cases this
    | some p =>
      obtain ⟨x, r⟩ := p
      rw [hp] at h2
      obtain ⟨rfl, h3, h5, _⟩ := h2
      by_cases hr : r = []
      · subst hr
        obtain ⟨e1, e2⟩ := (any_whole (l := (lexW s).1) (n := (lexW s).1.length + 1) (m := 1000) (by omega) (by omega) _).1 hp
        cases hok : (lexW s).2 with
        | false =>
          have : (!(lexW s).2 || ((wholeF ((lexW s).1.length + 1) (lexW s).1).Kind == 0)) = true := by rw [hok]; rfl
          have := hbad st.bad st.s ?_ this
          · rw [hok] at this; exact this
          · rw [hok] at h5
            have hs2 : skip st.s ≠ [] := by
              intro h0
              have := lexW_skip st.s
              rw [h0, lexW_nil, h5] at this
              cases this
            have : (skip st.s == ([] : Bytes)) = false := by simpa using hs2
            rw [this]; simp
        | true =>
          rw [hok] at h5
          have hs2 : skip st.s = [] := by
            cases hn : nxt st.s with
            | none =>
              have := lex_none hn
              rw [h5] at this
              injection this with _ this
              exact eq_of_beq this.symm
            | some q =>
              obtain ⟨w, s'⟩ := q
              obtain ⟨hl, _⟩ := lex_some hn
              rw [hl] at h5; cases h5
          have ek : (y.Kind == 0) = false := by simpa using e2
          dsimp only
          rw [h3, hs2, e1, ek]
          show ((expr_few y).bind _) = some (bif !decide (sz y ≤ 60) then (zeroX, 4) else bif decide (dp y > 16) then (zeroX, 5) else (y, 0))
          rw [few_eq, Option.bind_some]
          by_cases h6 : sz y ≤ 60
          · rw [decide_eq_true h6, Bool.not_true, cond_false, cond_false, Deep_prog (by omega), Option.bind_some]
            cases decide (dp y > 16) <;> rfl
          · rw [decide_eq_false h6]; rfl
      · refine hbad st.bad st.s ?_ ?_
        · have hs2 : skip st.s ≠ [] := by
            intro h0
            have := lexW_skip st.s
            rw [h0, lexW_nil, h5] at this
            injection this with this _
            exact hr this.symm
          have : (skip st.s == ([] : Bytes)) = false := by simpa using hs2
          rw [this]; simp
        · by_cases hk : (wholeF ((lexW s).1.length + 1) (lexW s).1).Kind = 0
          · rw [hk]; simp
          · have := (any_whole (l := (lexW s).1) (n := (lexW s).1.length + 1) (m := 1000) (by omega) (by omega) _).2 ⟨rfl, hk⟩
            rw [hp] at this
            injection this with this
            injection this with _ this
            exact absurd this hr
end Go.Proofs.YtdobepgddhbncaaGreatDoor
namespace Go.Proofs.YtdobepgddhbncaaGreatDoor
open Go Go.Pm
set_option linter.unusedSimpArgs false
set_option linter.unusedVariables false
theorem decD_len (n : Nat) : (Lib.decDigits n).length ≤ n + 1 := by
  induction n using Nat.strongRecOn with
  | _ n ih =>
    rw [Lib.decDigits]
    by_cases h : n < 10
    · rw [dif_pos h]; simp
    · rw [dif_neg h, List.length_append]
      have := ih (n / 10) (by omega)
      simp only [List.length_singleton]
      omega
def numW (n : Int) : Bytes := bif decide (n < 0) then 45 :: Lib.decDigits (-n).toNat else Lib.decDigits n.toNat
theorem numW_len {n : Int} (h : -1099511627776 ≤ n ∧ n ≤ 1099511627776) : (numW n).length ≤ 1099511627778 := by
  unfold numW
  cases decide (n < 0) with
  | true => have := decD_len (-n).toNat; rw [cond_true, List.length_cons]; omega
  | false => have := decD_len n.toNat; rw [cond_false]; omega
theorem Dec_int {n : Int} (h : 0 ≤ n) (h' : n ≤ 1099511627776) : number_Dec n = some (Lib.decDigits n.toNat) := by
  have := Dec_eq n.toNat (by omega)
  rwa [Int.toNat_of_nonneg h] at this
theorem leaf_kids {x : S_Expr} (h : leafB x = true) : x.Kids = [] ∧ x.Sign = [] := by
  unfold leafB at h
  simp only [Bool.and_eq_true, List.isEmpty_iff, beq_iff_eq] at h
  exact ⟨h.1.2, h.1.1⟩
theorem leaf_num {x : S_Expr} (h : leafB x = true) (hk : (x.Kind == 1) = true) : -1099511627776 ≤ x.N ∧ x.N ≤ 1099511627776 := by
  unfold leafB at h
  rw [hk] at h
  simp only [cond_true, Bool.and_eq_true, decide_eq_true_eq] at h
  exact ⟨h.2.1.2, h.2.2⟩
theorem write_num {n : Nat} {x : S_Expr} (h : leafB x = true) (hk : (x.Kind == 1) = true) : expr_write_r (n + 1) x = some (numW x.N) := by
  have hn := leaf_num h hk
  show expr_write_s (expr_write_r n) x = _
  unfold expr_write_s
  have hl : loopO (expr_write_b1 (expr_write_r n) x) (([] : List Bytes), (0 : Int)) = some [] := by
    rw [loopO_eq]
    unfold expr_write_b1
    rw [(leaf_kids h).1]; rfl
  rw [hl, Option.bind_some, hk, cond_true]
  unfold numW
  by_cases h0 : x.N < 0
  · rw [decide_eq_true h0, cond_true, cond_true, Int.zero_sub, wrap_i64 (by omega) (by omega), wrap_u64 (by omega) (by omega), Dec_int (by omega) (by omega), Option.bind_some, cat_ok]
    · rfl
    · have := decD_len (-x.N).toNat
      unfold maxLen; simp only [List.length_singleton]; omega
  · rw [decide_eq_false h0, cond_false, cond_false, wrap_u64 (by omega) (by omega), Dec_int (by omega) (by omega)]; rfl
/-! ### How long a value may be -/
structure ESm2 (e : S_Env) : Prop extends ESm e where
  host : e.Host.length ≤ 10000
  referer : e.Referer.length ≤ 10000
theorem findS_len {n : Nat} {l : List S_Pair} (h : PSm n l) (k : Bytes) : (findS l k).1.length ≤ n := by
  unfold findS
  cases hf : l.find? (fun p => p.Name == k) with
  | none => exact Nat.zero_le _
  | some p => exact (h p (List.mem_of_find?_eq_some hf)).2
theorem digS_len (s w : Bytes) : (digS s w).length ≤ s.length := by
  unfold digS
  cases hasW s w with
  | true =>
    have := tw_len dpB (s.drop ((Lib.index s w).toNat + w.length))
    rw [List.length_drop] at this
    rw [cond_true]; omega
  | false => exact Nat.zero_le _
theorem agK_len (s k : Bytes) : (agK (agS s) k).length ≤ s.length + 10 := by
  have h1 : (agB s).1.length ≤ 10 ∧ (agB s).2.length ≤ s.length := by
    unfold agB
    cases hasW s sMSIE with
    | true => exact ⟨(by decide : sMSIE.length ≤ 10), digS_len ..⟩
    | false =>
      cases hasW s sMozilla with
      | true => exact ⟨(by decide : sMOZILLA.length ≤ 10), digS_len ..⟩
      | false => exact ⟨(by decide : sOTHER.length ≤ 10), Nat.zero_le _⟩
  have h2 : (agO s).length ≤ 10 := by
    unfold agO
    cases hasW s [87, 105, 110, 100, 111, 119, 115] <;> cases hasW s [77, 97, 99] <;> cases hasW s [88, 49, 49] <;> decide
  unfold agK agS
  cases k == ([98, 114, 111, 119, 115, 101, 114] : Bytes) with
  | true => rw [cond_true]; dsimp only; omega
  | false =>
    cases k == ([118, 101, 114, 115, 105, 111, 110] : Bytes) with
    | true => rw [cond_false, cond_true]; dsimp only; omega
    | false =>
      cases k == ([111, 115] : Bytes) with
      | true => rw [cond_false, cond_false, cond_true]; dsimp only; omega
      | false => exact Nat.zero_le _
theorem cook_len {s : Bytes} (hs : s.length ≤ 10000) : PSm s.length (cookS s) := by
  obtain ⟨r, h1, _, h3, _⟩ := Cookies_same hs
  unfold cookS; rw [h1]; exact h3
theorem query_len {s : Bytes} (hs : s.length ≤ 10000) : PSm s.length (queryS s) := by
  obtain ⟨r, h1, _, h3, _⟩ := Query_same hs
  unfold queryS; rw [h1]; exact h3
theorem valS_len {e : S_Env} (he : ESm2 e) (n k : Bytes) : (valS e n k).1.length ≤ 10010 := by
  have a1 := he.agent; have a2 := he.cookie; have a3 := he.query; have a4 := he.language; have a5 := he.host; have a6 := he.referer
  have b1 := agK_len e.Agent k
  have b2 := findS_len (cook_len he.cookie) k
  have b3 := findS_len (query_len he.query) k
  have b4 : (langV (langS e.Language) k).1.length ≤ 10 := by
    unfold langV; cases hasS (langS e.Language) (lower k) <;> decide
  unfold valS
  have hb : ∀ (c d : Bool) (x y : Bytes × Bool), x.1.length ≤ 10010 → y.1.length ≤ 10010 → ((bif c then x else y) : Bytes × Bool).1.length ≤ 10010 := fun c d x y h1 h2 => by cases c; exact h2; exact h1
  have hs : ∀ s : Bytes, s.length ≤ 10010 → (sme s).1.length ≤ 10010 := fun s h => h
  refine hb _ true _ _ (hb _ true _ _ (hs _ (by omega)) (Nat.zero_le _)) ?_
  refine hb _ true _ _ (hb _ true _ _ (hs _ (by omega)) (Nat.zero_le _)) ?_
  refine hb _ true _ _ (hb _ true _ _ (hs _ (by omega)) (hs _ (by omega))) ?_
  refine hb _ true _ _ (hb _ true _ _ (hs _ (by omega)) (by omega)) ?_
  refine hb _ true _ _ (hb _ true _ _ (hs _ (by omega)) (by omega)) ?_
  exact hb _ true _ _ (hb _ true _ _ (hs _ (by omega)) (by omega)) (Nat.zero_le _)
theorem refS_len {val : Bytes → Bytes → Bytes × Bool} {M : Nat} (hv : ∀ n k, (val n k).1.length ≤ M) (s : Bytes) (hs : s.length ≤ M) : (refS val s).1.length ≤ M := by
  have hend : ∀ (n k o : Bytes) (len : Nat) (r : Bytes), o.length ≤ M → (endS val n k o len r).1.length ≤ M := fun n k o len r ho => by
    unfold endS
    cases hasPre r [41] with
    | false => exact Nat.zero_le _
    | true =>
      rw [cond_true]
      cases (val n k).2 with
      | true => exact hv n k
      | false => exact ho
  have hoth : ∀ (n k : Bytes) (len : Nat) (r : Bytes), r.length ≤ M → (othS val n k len r).1.length ≤ M := fun n k len r hr => by
    unfold othS
    have d2 : (r.drop 2).length ≤ M := by rw [List.length_drop]; omega
    have d1 : (r.drop 1).length ≤ M := by rw [List.length_drop]; omega
    cases hasPre r [124, 39] with
    | true =>
      rw [cond_true]
      cases (cutC 39 (r.drop 2)).2.2 with
      | true => exact hend _ _ _ _ _ (Nat.le_trans (cutC_le ..).1 d2)
      | false => exact Nat.zero_le _
    | false =>
      rw [cond_false]
      cases hasPre r [124] with
      | true => exact hend _ _ _ _ _ (by have := tw_len (nB oBad) (r.drop 1); omega)
      | false => exact hend _ _ _ _ _ (Nat.zero_le _)
  unfold refS
  have t1 := tw_len letB (s.drop 2)
  rw [List.length_drop] at t1
  cases (hasPre s [36, 40] && !(tw letB (s.drop 2) == ([] : Bytes))) with
  | false => exact Nat.zero_le _
  | true =>
    rw [cond_true]
    cases hasPre (dw letB (s.drop 2)) [123] with
    | false => exact hoth _ _ _ _ (by omega)
    | true =>
      rw [cond_true]
      cases (!(tw (nB kBad) ((dw letB (s.drop 2)).drop 1) == ([] : Bytes)) && hasPre (dw (nB kBad) ((dw letB (s.drop 2)).drop 1)) [125]) with
      | false => exact Nat.zero_le _
      | true =>
        refine hoth _ _ _ _ ?_
        have t2 := tw_len (nB kBad) ((dw letB (s.drop 2)).drop 1)
        rw [List.length_drop] at t2 ⊢
        omega
theorem refV_len {e : S_Env} (he : ESm2 e) {s : Bytes} (hs : s.length ≤ maxLen) : (refV e s).1.length ≤ maxLen :=
  refS_len (M := maxLen) (fun n k => Nat.le_trans (valS_len he n k) (by unfold maxLen; omega)) s hs
/-! ### A simple part's value -/
noncomputable def valX (e : S_Env) (x : S_Expr) : Bytes := bif x.Kind == 2 then x.Text else bif x.Kind == 3 then (refV e x.Text).1 else numW x.N
theorem simp_one {x : S_Expr} (h : simpB x = true) (h2 : (x.Kind == 2) = false) (h3 : (x.Kind == 3) = false) : (x.Kind == 1) = true := by
  unfold simpB at h
  rw [h2, h3] at h
  simpa using h
theorem valX_len {e : S_Env} (he : ESm2 e) {x : S_Expr} (hs : simpB x = true) (hl : leafB x = true) (hx : KOk x) : (valX e x).length ≤ maxLen := by
  unfold valX
  cases h2 : x.Kind == 2 with
  | true => exact hx.text
  | false =>
    cases h3 : x.Kind == 3 with
    | true => exact refV_len he hx.text
    | false => have := numW_len (leaf_num hl (simp_one hs h2 h3)); unfold maxLen; rw [cond_false, cond_false]; omega
theorem value_prog {e : S_Env} (he : ESm2 e) {x : S_Expr} (hs : simpB x = true) (hl : leafB x = true) (hx : KOk x) : expr_value e x = some (valX e x) := by
  unfold expr_value valX
  cases h2 : x.Kind == 2 with
  | true => rfl
  | false =>
    cases h3 : x.Kind == 3 with
    | true => rw [cond_false, cond_true, varsRef_eq he.toESm hx.text]; rfl
    | false => rw [cond_false, cond_false, show expr_write x = _ from write_num (n := 999999) hl (simp_one hs h2 h3)]; rfl
def agP (a b : Bytes) : Int := bif (sgn a).2 == 0 && (sgn b).2 == 0 then (bif decide ((sgn a).1 < (sgn b).1) then -1 else bif decide ((sgn a).1 > (sgn b).1) then 1 else 0) else Lib.compareBytes a b
theorem against_eq {a b : Bytes} (ha : a.length ≤ maxLen) (hb : b.length ≤ maxLen) : expr_against a b = some (agP a b) := by
  unfold expr_against agP
  rw [Signed_eq ha, Signed_eq hb, Option.bind_some, Option.bind_some, show ((sgn a).2 != 0) = !((sgn a).2 == 0) from rfl, show ((sgn b).2 != 0) = !((sgn b).2 == 0) from rfl]
  cases (sgn a).2 == 0 <;> cases (sgn b).2 == 0 <;> try rfl
  cases decide ((sgn a).1 < (sgn b).1) <;> cases decide ((sgn a).1 > (sgn b).1) <;> rfl
end Go.Proofs.YtdobepgddhbncaaGreatDoor
namespace Go.Proofs.YtdobepgddhbncaaGreatDoor
open Go Go.Pm
set_option linter.unusedSimpArgs false
set_option linter.unusedVariables false
inductive WV : S_Expr → Prop
  | leaf (x : S_Expr) (h1 : simpB x = true) (h2 : leafB x = true) : WV x
  | sign (s : Bytes) (a b : S_Expr) (hs : isSignB s = true) (ha : simpB a = true) (ha' : leafB a = true) (hb : simpB b = true) (hb' : leafB b = true) : WV (S_Expr.mk 7 0 [] s [a, b])
  | no (a : S_Expr) (ha : wl a = true) : WV (S_Expr.mk 4 0 [] [] [a])
  | row (k : Int) (l : List S_Expr) (hk : k = 5 ∨ k = 6) (hl : 2 ≤ l.length) (h : ∀ x, x ∈ l → wl x = true) : WV (S_Expr.mk k 0 [] [] l)
theorem wl_leaf {x : S_Expr} (h : wl x = true) (hs : simpB x = true) : leafB x = true := by
  rw [wl_eq, hs, cond_true] at h; exact h
theorem wl_view {x : S_Expr} (h : wl x = true) : WV x := by
  cases hs : simpB x with
  | true => exact .leaf x hs (wl_leaf h hs)
  | false =>
    rw [wl_eq, hs, cond_false] at h
    obtain ⟨k, n, t, s, kids⟩ := x
    simp only [Bool.and_eq_true, beq_iff_eq] at h
    obtain ⟨⟨⟨h1, h2⟩, h3⟩, h4⟩ := h
    subst h1; subst h2
    rw [wls_all, List.all_eq_true] at h3
    unfold nodeB at h4
    dsimp only at h4
    cases h7 : k == 7 with
    | true =>
      rw [h7, cond_true] at h4
      simp only [Bool.and_eq_true, Nat.beq_eq, List.all_eq_true] at h4
      obtain ⟨⟨g1, g2⟩, g3⟩ := h4
      match kids, g2 with
      | [a, b], _ =>
        have ha := g3 a (by simp); have hb := g3 b (by simp)
        rw [beq_iff_eq.1 h7]
        exact .sign s a b g1 ha (wl_leaf (h3 a (by simp)) ha) hb (wl_leaf (h3 b (by simp)) hb)
    | false =>
      rw [h7, cond_false] at h4
      cases h5 : k == 4 with
      | true =>
        rw [h5, cond_true] at h4
        simp only [Bool.and_eq_true, Nat.beq_eq, beq_iff_eq] at h4
        obtain ⟨g1, g2⟩ := h4
        match kids, g2 with
        | [a], _ =>
          rw [beq_iff_eq.1 h5, g1]
          exact .no a (h3 a (by simp))
      | false =>
        rw [h5, cond_false] at h4
        cases h6 : (k == 5 || k == 6) with
        | true =>
          rw [h6, cond_true] at h4
          simp only [Bool.and_eq_true, Nat.ble_eq, beq_iff_eq] at h4
          rw [h4.1]
          exact .row k kids (by simpa using h6) h4.2 h3
        | false => rw [h6] at h4; cases h4
def sgV (g : Bytes) (n : Int) : Bool := bif g == ([61, 61] : Bytes) then n == 0 else bif g == ([33, 61] : Bytes) then n != 0 else bif g == ([60] : Bytes) then decide (n < 0) else
  bif g == ([62] : Bytes) then decide (n > 0) else bif g == ([60, 61] : Bytes) then decide (n ≤ 0) else decide (n ≥ 0)
def wTrue : Bytes := [116, 114, 117, 101]
mutual
noncomputable def hold (e : S_Env) : S_Expr → Bool
  | ⟨k, n, t, s, kids⟩ => bif k == 1 then n != 0 else bif k == 4 then !(anyH e kids) else bif k == 5 then allH e kids else bif k == 6 then anyH e kids else
    bif k == 7 then sgV s (agP (valX e (kids.headD zeroX)) (valX e ((kids.drop 1).headD zeroX))) else valX e ⟨k, n, t, s, kids⟩ == wTrue
noncomputable def anyH (e : S_Env) : List S_Expr → Bool
  | [] => false
  | x :: l => hold e x || anyH e l
noncomputable def allH (e : S_Env) : List S_Expr → Bool
  | [] => true
  | x :: l => hold e x && allH e l
end
theorem hold_eq (e : S_Env) (x : S_Expr) : hold e x = bif x.Kind == 1 then x.N != 0 else bif x.Kind == 4 then !(anyH e x.Kids) else bif x.Kind == 5 then allH e x.Kids else bif x.Kind == 6 then anyH e x.Kids else
    bif x.Kind == 7 then sgV x.Sign (agP (valX e (x.Kids.headD zeroX)) (valX e ((x.Kids.drop 1).headD zeroX))) else valX e x == wTrue := by cases x; rw [hold]
theorem anyH_any (e : S_Env) : ∀ (l : List S_Expr), anyH e l = l.any (hold e)
  | [] => by rw [anyH]; rfl
  | x :: l => by rw [anyH, anyH_any e l]; rfl
theorem allH_all (e : S_Env) : ∀ (l : List S_Expr), allH e l = l.all (hold e)
  | [] => by rw [allH]; rfl
  | x :: l => by rw [allH, allH_all e l]; rfl
theorem kids_mem {k n : Int} {t s : Bytes} {l : List S_Expr} {m : Nat} (h : sz (S_Expr.mk k n t s l) ≤ m + 1) {x : S_Expr} (hx : x ∈ l) : sz x ≤ m := by
  have := szs_mem hx
  rw [sz] at h; omega
theorem not_all {l : List S_Expr} {p : S_Expr → Bool} : (!(l.any fun k => !p k)) = l.all p := by
  rw [List.all_eq_not_any_not]
theorem simp_kind {x : S_Expr} (hs : simpB x = true) : (x.Kind == 4) = false ∧ (x.Kind == 5) = false ∧ (x.Kind == 6) = false ∧ (x.Kind == 7) = false := by
  unfold simpB at hs
  simp only [Bool.or_eq_true, beq_iff_eq] at hs
  rcases hs with (h | h) | h <;> rw [h] <;> exact ⟨rfl, rfl, rfl, rfl⟩
theorem holds_prog {e : S_Env} (he : ESm2 e) : ∀ (n : Nat) (x : S_Expr), sz x ≤ n → wl x = true → KOk x → expr_holds_r n e x = some (hold e x) := by
  intro n
  induction n with
  | zero => intro x h; have := sz_pos x; omega
  | succ n ih =>
    intro x h hw hx
    show expr_holds_s (expr_holds_r n) e x = _
    unfold expr_holds_s
    rw [hold_eq]
    cases wl_view hw with
    | leaf _ h1 h2 =>
      obtain ⟨k4, k5, k6, k7⟩ := simp_kind h1
      rw [k4, k5, k6, k7, value_prog he h1 h2 hx]
      cases x.Kind == 1 <;> rfl
    | sign s a b hs ha ha' hb hb' =>
      have ka := hx.at_.2 a (by simp); have kb := hx.at_.2 b (by simp)
      show ((expr_value e a).bind fun x6 => (some b).bind fun x7 => (expr_value e x7).bind fun x8 => (expr_against x6 x8).bind fun x9 => _) = some (sgV s (agP (valX e a) (valX e b)))
      rw [value_prog he ha ha' ka, Option.bind_some, Option.bind_some, value_prog he hb hb' kb, Option.bind_some, against_eq (valX_len he ha ha' ka) (valX_len he hb hb' kb), Option.bind_some]
      unfold sgV
      dsimp only
      cases s == ([61, 61] : Bytes) with
      | true => rfl
      | false =>
        cases s == ([33, 61] : Bytes) with
        | true => rfl
        | false =>
          cases s == ([60] : Bytes) with
          | true => rfl
          | false =>
            cases s == ([62] : Bytes) with
            | true => rfl
            | false =>
              cases s == ([60, 61] : Bytes) <;> rfl
    | no a ha =>
      have ka := hx.at_.2 a (by simp)
      show ((expr_holds_2 (expr_holds_r n) a e).bind fun x2 => some x2) = some (!(anyH e [a]))
      unfold expr_holds_2
      rw [ih a (kids_mem h (by simp)) ha ka, anyH, anyH, Bool.or_false]; rfl
    | row k l hk hl hall =>
      have kk := hx.at_
      rcases hk with rfl | rfl
      · show ((slices_ContainsFunc__api_Expr_api_Expr l (fun x0 => expr_holds_2 (expr_holds_r n) x0 e)).bind fun x3 => some (!x3)) = some (allH e l)
        rw [kids_any (l := l) (fun k => !(hold e k)) (fun k hm => by unfold expr_holds_2; rw [ih k (kids_mem h hm) (hall k hm) (kk.2 k hm)]; rfl) kk.1, allH_all, ← not_all]; rfl
      · show ((slices_ContainsFunc__api_Expr_api_Expr l (fun x0 => expr_holds_1 (expr_holds_r n) x0 e)).bind fun x4 => some x4) = some (anyH e l)
        rw [kids_any (l := l) (hold e) (fun k hm => by unfold expr_holds_1; rw [ih k (kids_mem h hm) (hall k hm) (kk.2 k hm)]; rfl) kk.1, anyH_any]; rfl
end Go.Proofs.YtdobepgddhbncaaGreatDoor
namespace Go.Proofs.YtdobepgddhbncaaGreatDoor
open Go Go.Pm
set_option linter.unusedSimpArgs false
set_option linter.unusedVariables false
def rightB (x : S_Expr) : Bool := decide (sz x ≤ 60) && (wl x && decide (dp x ≤ 16))
theorem rightB_iff {x : S_Expr} : rightB x = true ↔ sz x ≤ 60 ∧ wl x = true ∧ dp x ≤ 16 := by
  unfold rightB; simp only [Bool.and_eq_true, decide_eq_true_eq]
theorem right_prog {x : S_Expr} (hx : KOk x) : expr_Right x = some (rightB x) := by
  unfold expr_Right rightB
  rw [few_eq, Option.bind_some]
  by_cases h : sz x ≤ 60
  · rw [decide_eq_true h, gcall_tt rfl, show expr_well x = _ from well_prog 1000000 x (by omega) hx, Option.bind_some, cond_true, Bool.true_and]
    cases wl x with
    | true => rw [gcall_tt rfl, Deep_prog (by omega)]; rfl
    | false => rfl
  · rw [decide_eq_false h]; rfl
noncomputable def evalX (e : S_Env) (x : S_Expr) : Bool × Int := bif rightB x then (hold e x, 0) else (false, 1)
theorem Eval_eq {e : S_Env} (he : ESm2 e) {x : S_Expr} (hx : KOk x) : expr_Eval e x = some (evalX e x) := by
  unfold expr_Eval evalX
  rw [right_prog hx, Option.bind_some]
  cases h : rightB x with
  | false => rfl
  | true =>
    obtain ⟨h1, h2, h3⟩ := rightB_iff.1 h
    rw [show expr_holds e x = _ from holds_prog he 1000000 x (by omega) h2 hx]; rfl
/-! ### What is read -/
theorem parX_cases (s : Bytes) : ((parX s).2 ≠ 0 ∧ (parX s).1 = zeroX) ∨ (∃ x, parX s = (x, 0) ∧ s.length ≤ 400 ∧ (lexW s).2 = true ∧ wholeF ((lexW s).1.length + 1) (lexW s).1 = x ∧ x.Kind ≠ 0 ∧ KOk x ∧ rightB x = true) := by
  unfold parX
  by_cases h4 : s.length > 400
  · rw [decide_eq_true h4]; exact .inl ⟨(by decide : (2 : Int) ≠ 0), rfl⟩
  · rw [decide_eq_false h4, cond_false]
    have htok := lex_tok s.length s (Nat.le_refl _) (by omega)
    have hcnt := lex_count s.length s (Nat.le_refl _)
    generalize hx : wholeF ((lexW s).1.length + 1) (lexW s).1 = x
    cases hok : (lexW s).2 with
    | false => exact .inl ⟨(by decide : (50 : Int) ≠ 0), rfl⟩
    | true =>
      cases hk : x.Kind == 0 with
      | true => exact .inl ⟨(by decide : (50 : Int) ≠ 0), rfl⟩
      | false =>
        have hk' : x.Kind ≠ 0 := by simpa using hk
        have hf := whole_fine ((lexW s).1.length + 1) (lexW s).1 (by omega) htok (by rw [hx]; exact hk')
        rw [hx] at hf
        by_cases h6 : sz x ≤ 60
        · rw [decide_eq_true h6]
          by_cases h16 : dp x > 16
          · rw [decide_eq_true h16]; exact .inl ⟨(by decide : (5 : Int) ≠ 0), rfl⟩
          · rw [decide_eq_false h16]
            exact .inr ⟨x, rfl, by omega, rfl, rfl, hk', hf.2, rightB_iff.2 ⟨h6, hf.1, by omega⟩⟩
        · rw [decide_eq_false h6]; exact .inl ⟨(by decide : (4 : Int) ≠ 0), rfl⟩
noncomputable def testX (e : S_Env) (s : Bytes) : Bool × Int := bif (parX s).2 == 0 then (hold e (parX s).1, 0) else (false, (parX s).2)
theorem Test_eq {e : S_Env} (he : ESm2 e) (s : Bytes) : expr_Test e s = some (testX e s) := by
  unfold expr_Test testX
  rw [progParse_eq, Option.bind_some]
  rcases parX_cases s with ⟨h1, h2⟩ | ⟨x, h1, _, _, _, _, h2, h3⟩
  · have : ((parX s).2 == 0) = false := by simpa using h1
    rw [show ((parX s).2 != (0 : Int)) = !((parX s).2 == 0) from rfl, this]; rfl
  · rw [h1]
    show ((expr_Eval e x).bind fun x2 => some (x2.1, x2.2)) = _
    rw [Eval_eq he h2]
    unfold evalX; rw [h3]; rfl
/-! ### What a request of little text says -/
theorem imin_nat (n k : Nat) : imin ((n : Nat) : Int) (k : Int) = ((min n k : Nat) : Int) := by
  unfold imin
  split <;> omega
theorem cut_eq {α : Type} (s : List α) (k : Nat) : slc s 0 (imin (s.length : Int) (k : Int)) = some (s.take k) := by
  rw [imin_nat, slc_take _ _ (Nat.min_le_left ..)]
  congr 1
  rw [List.take_eq_take_iff]; omega
def fewE (e : S_Env) : S_Env := S_Env.mk (e.Host.take 300) (e.Referer.take 300) (e.Agent.take 300) (e.Cookie.take 300) (e.Language.take 300) (e.Query.take 300)
theorem few_cut (s : Bytes) : intarsialaw18_few_1 s = some (s.take 300) := by
  unfold intarsialaw18_few_1
  rw [show (300 : Int) = ((300 : Nat) : Int) from rfl, cut_eq]; rfl
theorem fewE_eq (e : S_Env) : intarsialaw18_few e = some (fewE e) := by
  unfold intarsialaw18_few
  simp only [few_cut, Option.bind_some]
  rfl
theorem take_le (s : Bytes) : (s.take 300).length ≤ 10000 := by rw [List.length_take]; omega
theorem fewE_sm (e : S_Env) : ESm2 (fewE e) :=
  { agent := take_le _, cookie := take_le _, query := take_le _, language := take_le _, host := take_le _, referer := take_le _ }
/-! ### A known test -/
def lexF : Nat → Bytes → List Bytes × Bool
  | 0, _ => ([], false)
  | _ + 1, [] => ([], true)
  | n + 1, c :: t => bif blk c then lexF n t else bif Nat.beq (wordN (c :: t)) 0 then ([], false) else
      ((c :: t).take (wordN (c :: t)) :: (lexF n ((c :: t).drop (wordN (c :: t)))).1, (lexF n ((c :: t).drop (wordN (c :: t)))).2)
theorem lexF_eq : ∀ (n : Nat) (s : Bytes), s.length < n → lexF n s = lexW s := by
  intro n
  induction n with
  | zero => intro s h; omega
  | succ n ih =>
    intro s h
    cases s with
    | nil => rw [lexW_nil]; rfl
    | cons c t =>
      rw [List.length_cons] at h
      rw [lexF]
      cases hb : blk c with
      | true => rw [cond_true, ih t (by omega), lexW_blk t hb]
      | false =>
        rw [cond_false]
        by_cases h0 : wordN (c :: t) = 0
        · rw [lexW_bad hb h0, h0]; rfl
        · have : Nat.beq (wordN (c :: t)) 0 = false := by rw [← Bool.not_eq_true, Nat.beq_eq]; exact h0
          rw [lexW_word hb h0, this, cond_false, ih _ (by rw [List.length_drop, List.length_cons]; omega)]
def aText : Bytes := [49, 61, 61, 49, 32, 38, 32, 33, 40, 39, 97, 39, 62, 39, 98, 39, 41]
def bText : Bytes := [49, 48, 60, 57]
def numX (n : Int) : S_Expr := S_Expr.mk 1 n [] [] []
def txtX (s : Bytes) : S_Expr := S_Expr.mk 2 0 s [] []
def aTest : S_Expr := S_Expr.mk 5 0 [] [] [S_Expr.mk 7 0 [] [61, 61] [numX 1, numX 1], S_Expr.mk 4 0 [] [] [S_Expr.mk 7 0 [] [62] [txtX [97], txtX [98]]]]
def bTest : S_Expr := S_Expr.mk 7 0 [] [60] [numX 10, numX 9]
def aWords : List Bytes := [[49], [61, 61], [49], [38], [33], [40], [39, 97, 39], [62], [39, 98, 39], [41]]
def bWords : List Bytes := [[49, 48], [60], [57]]
theorem aLex : lexW aText = (aWords, true) := by rw [← lexF_eq 18 aText (by decide)]; kernel_rfl
theorem bLex : lexW bText = (bWords, true) := by rw [← lexF_eq 5 bText (by decide)]; kernel_rfl
theorem aPar : parX aText = (aTest, 0) := by
  unfold parX; rw [aLex]; kernel_rfl
theorem bPar : parX bText = (bTest, 0) := by
  unfold parX; rw [bLex]; kernel_rfl
theorem decD1 {n : Nat} (h : n < 10) : Lib.decDigits n = [UInt8.ofNat (48 + n)] := by rw [Lib.decDigits, dif_pos h]
theorem numW1 : numW 1 = [49] := by
  show Lib.decDigits 1 = _
  rw [decD1 (by decide)]; rfl
theorem numW9 : numW 9 = [57] := by
  show Lib.decDigits 9 = _
  rw [decD1 (by decide)]; rfl
theorem numW10 : numW 10 = [49, 48] := by
  show Lib.decDigits 10 = _
  rw [Lib.decDigits, dif_neg (by decide), decD1 (by decide)]; rfl
theorem valX_num (e : S_Env) (n : Int) : valX e (numX n) = numW n := rfl
theorem valX_txt (e : S_Env) (s : Bytes) : valX e (txtX s) = s := rfl
theorem hold_sign (e : S_Env) (g : Bytes) (a b : S_Expr) : hold e (S_Expr.mk 7 0 [] g [a, b]) = sgV g (agP (valX e a) (valX e b)) := by rw [hold]; rfl
theorem hold_not (e : S_Env) (a : S_Expr) : hold e (S_Expr.mk 4 0 [] [] [a]) = !(hold e a) := by
  rw [hold]
  show (!(anyH e [a])) = _
  rw [anyH, anyH, Bool.or_false]
theorem hold_and (e : S_Env) (l : List S_Expr) : hold e (S_Expr.mk 5 0 [] [] l) = l.all (hold e) := by
  rw [hold, ← allH_all]; rfl
theorem E0_sm2 : ESm2 E0 := { agent := by decide, cookie := by decide, query := by decide, language := by decide, host := by decide, referer := by decide }
theorem alive_eq : intarsialaw18_alive = some true := by
  unfold intarsialaw18_alive
  rw [show (S_Env.mk ([] : Bytes) ([] : Bytes) ([] : Bytes) ([] : Bytes) ([] : Bytes) ([] : Bytes)) = E0 from rfl]
  have h1 : testX E0 aText = (true, 0) := by
    unfold testX
    rw [aPar]
    show (hold E0 aTest, (0 : Int)) = _
    unfold aTest
    rw [hold_and, List.all_cons, List.all_cons, List.all_nil, hold_not, hold_sign, hold_sign, valX_num, valX_txt, valX_txt, numW1]
    kernel_rfl
  have h2 : testX E0 bText = (false, 0) := by
    unfold testX
    rw [bPar]
    show (hold E0 bTest, (0 : Int)) = _
    unfold bTest
    rw [hold_sign, valX_num, valX_num, numW9, numW10]
    kernel_rfl
  rw [show expr_Test E0 ([49, 61, 61, 49, 32, 38, 32, 33, 40, 39, 97, 39, 62, 39, 98, 39, 41] : Bytes) = some (true, 0) from (Test_eq E0_sm2 aText).trans (congrArg some h1),
    show expr_Test E0 ([49, 48, 60, 57] : Bytes) = some (false, 0) from (Test_eq E0_sm2 bText).trans (congrArg some h2)]
  rfl
end Go.Proofs.YtdobepgddhbncaaGreatDoor
namespace Go.Proofs.YtdobepgddhbncaaGreatDoor
open Go Go.Pm
set_option linter.unusedSimpArgs false
set_option linter.unusedVariables false
theorem tw_app {p : UInt8 → Bool} {d : UInt8} (hd : p d = false) : ∀ (s u : Bytes), tw p (s ++ d :: u) = tw p s
  | [], u => by rw [List.nil_append, tw_cons, hd]; rfl
  | x :: s, u => by
    rw [List.cons_append, tw_cons, tw_cons]
    cases p x with
    | true => rw [cond_true, cond_true, tw_app hd s u]
    | false => rfl
theorem wordN_app {d : UInt8} (h1 : isDig d = false) (h2 : d ≠ 61) (c : UInt8) (t u : Bytes) (h0 : wordN (c :: t) ≠ 0) : wordN (c :: t ++ d :: u) = wordN (c :: t) := by
  rw [List.cons_append]
  rw [wordN_cons] at h0 ⊢
  rw [wordN_cons]
  cases hq : c == 39 with
  | true =>
    rw [hq, cond_true] at h0
    rw [cond_true, cond_true]
    cases hc : (cutC 39 t).2.2 with
    | false => rw [hc] at h0; exact absurd rfl h0
    | true =>
      have e := cutC_back 39 t hc
      have e2 : t ++ d :: u = (cutC 39 t).1 ++ 39 :: ((cutC 39 t).2.1 ++ d :: u) := by
        conv => lhs; rw [e]
        rw [List.append_assoc, List.cons_append]
      rw [e2, cutC_at 39 _ (cutC_pre 39 t hc)]
  | false =>
    rw [hq, cond_false] at h0
    rw [cond_false, cond_false]
    rcases refN_cases (c :: t) with hr | hr
    · have hc : (c == 36) = false := by
        cases hc : c == 36 with
        | false => rfl
        | true =>
          exfalso
          rw [hr] at h0
          rw [beq_iff_eq.1 hc] at h0
          apply h0
          cases (t.head? == some 61) <;> rfl
      have hr2 : refN (c :: (t ++ d :: u)) = 0 := refN_none (by rw [hasPre_head]; exact hc)
      rw [hr, hr2, tw_app h1]
      have : ((t ++ d :: u).head? == some 61) = (t.head? == some 61) := by
        cases t with
        | nil => show (some d == some 61) = false; simpa using h2
        | cons y t => rfl
      rw [this]
    · obtain ⟨p, v, hp, e, hl⟩ := refN_spec hr
      have e2 : refN (c :: (t ++ d :: u)) = refN (c :: t) := by
        rw [hl, ← List.cons_append, e, List.append_assoc]
        exact refN_at hp _
      rw [e2, decide_eq_true hr]; rfl
theorem lex_app {d : UInt8} (h1 : isDig d = false) (h2 : d ≠ 61) (u : Bytes) : ∀ (n : Nat) (s : Bytes), s.length ≤ n → (lexW s).2 = true → lexW (s ++ d :: u) = ((lexW s).1 ++ (lexW (d :: u)).1, (lexW (d :: u)).2) := by
  intro n
  induction n with
  | zero =>
    intro s h _
    obtain rfl := List.length_eq_zero_iff.1 (Nat.le_zero.1 h)
    rw [lexW_nil]; rfl
  | succ n ih =>
    intro s h hok
    cases s with
    | nil => rw [lexW_nil]; rfl
    | cons c t =>
      rw [List.length_cons] at h
      cases hb : blk c with
      | true =>
        rw [lexW_blk t hb] at hok ⊢
        rw [List.cons_append, lexW_blk _ hb]
        exact ih t (by omega) hok
      | false =>
        by_cases h0 : wordN (c :: t) = 0
        · rw [lexW_bad hb h0] at hok; cases hok
        · rw [lexW_word hb h0] at hok ⊢
          have hw := wordN_app h1 h2 c t u h0
          rw [List.cons_append] at hw
          have hle := wordN_le (c :: t)
          rw [List.cons_append, lexW_word hb (by rw [hw]; exact h0), hw, ← List.cons_append, List.take_append_of_le_length hle, List.drop_append_of_le_length hle,
            ih _ (by rw [List.length_drop, List.length_cons]; omega) hok]
          rfl
theorem lex_sole {d : UInt8} (hd : d = 40 ∨ d = 41 ∨ d = 38 ∨ d = 124) (u : Bytes) : lexW (d :: u) = ([d] :: (lexW u).1, (lexW u).2) := by
  obtain ⟨h1, h2⟩ := wordN_sole hd u
  rw [lexW_word h2 (by rw [h1]; decide), h1]; rfl
theorem lex_par {s : Bytes} (hok : (lexW s).2 = true) (u : Bytes) : lexW (40 :: (s ++ 41 :: u)) = ([40] :: ((lexW s).1 ++ [41] :: (lexW u).1), (lexW u).2) := by
  rw [lex_sole (.inl rfl), lex_app (d := 41) rfl (by decide) u s.length s (Nat.le_refl _) hok, lex_sole (.inr (.inl rfl))]
/-! ### Parsing rows of words -/
theorem one_par {any : List Bytes → Res} {m : Nat} {W r : List Bytes} {x : S_Expr} (h : any (W ++ [41] :: r) = some (x, [41] :: r)) : pOne any (m + 1) ([40] :: (W ++ [41] :: r)) = some (x, r) := by
  rw [pOne_cons, if_neg (by decide), if_pos rfl, h]
  dsimp only
  rw [if_pos rfl]
def NoBy (b : Bytes) (r : List Bytes) : Prop := ∀ w t, r = w :: t → w ≠ b
theorem more_stop {one : List Bytes → Res} {b : Bytes} {m : Nat} {r : List Bytes} (h : NoBy b r) : pMore one b (m + 1) r = some ([], r) := by
  cases r with
  | nil => rfl
  | cons w t => rw [pMore, if_neg (h w t rfl)]
theorem row_last {one : List Bytes → Res} {kind : Int} {b : Bytes} {m : Nat} {l r : List Bytes} {x : S_Expr} (h : one l = some (x, r)) (hr : NoBy b r) : pRow one kind b (m + 1) l = some (x, r) := by
  unfold pRow
  rw [h]
  dsimp only
  rw [more_stop hr]; rfl
theorem noBy_nil (b : Bytes) : NoBy b [] := fun w t e => by cases e
theorem noBy_cons {b w : Bytes} {t : List Bytes} (h : w ≠ b) : NoBy b (w :: t) := fun w' t' e => by injection e with e1 _; rw [← e1]; exact h
theorem one_any {n : Nat} {l r : List Bytes} {x : S_Expr} (h : pOne (pAny n) (n + 1) l = some (x, r)) (hr : r = [] ∨ ∃ t, r = [41] :: t) : pAny (n + 1) l = some (x, r) := by
  have a : NoBy [38] r := by rcases hr with rfl | ⟨t, rfl⟩; exact noBy_nil _; exact noBy_cons (by decide)
  have b : NoBy [124] r := by rcases hr with rfl | ⟨t, rfl⟩; exact noBy_nil _; exact noBy_cons (by decide)
  exact row_last (m := n) (row_last (m := n) h a) b
/-! ### What is read of a text whose words are known -/
def fin (x : S_Expr) : S_Expr × Int := bif !decide (sz x ≤ 60) then (zeroX, 4) else bif decide (dp x > 16) then (zeroX, 5) else (x, 0)
theorem par_of {s : Bytes} {m : Nat} {W : List Bytes} {x : S_Expr} (h4 : s.length ≤ 400) (hl : lexW s = (W, true)) (hm : W.length < m) (h : pAny m W = some (x, [])) : parX s = fin x := by
  obtain ⟨h1, h2⟩ := (any_whole (l := W) (n := W.length + 1) (m := m) (by omega) hm x).1 h
  unfold parX fin
  rw [decide_eq_false (by omega), hl]
  dsimp only
  rw [h1]
  have : (x.Kind == 0) = false := by simpa using h2
  rw [this]; rfl
structure Rd (s : Bytes) (x : S_Expr) : Prop where
  par : parX s = (x, 0)
  len : s.length ≤ 400
  lex : (lexW s).2 = true
  cnt : (lexW s).1.length ≤ s.length
  ok : KOk x
  right : rightB x = true
  any : ∀ n r, s.length < n → (r = [] ∨ ∃ t, r = [41] :: t) → pAny n ((lexW s).1 ++ r) = some (x, r)
theorem rd_cases (s : Bytes) : ((parX s).2 ≠ 0 ∧ (parX s).1 = zeroX) ∨ ∃ x, Rd s x := by
  rcases parX_cases s with h | ⟨x, h1, h2, h3, h4, h5, h6, h7⟩
  · exact .inl h
  · have hc := lex_count s.length s (Nat.le_refl _)
    refine .inr ⟨x, h1, h2, h3, hc, h6, h7, fun n r hn hr => ?_⟩
    have hk : (wholeF ((lexW s).1.length + 1) (lexW s).1).Kind ≠ 0 := by rw [h4]; exact h5
    rw [any_cmp (lexW s).1.length (lexW s).1 (Nat.le_refl _) ((lexW s).1.length + 1) n (by omega) (by omega) hk r hr, h4]
theorem Rd.one {s : Bytes} {x : S_Expr} (h : Rd s x) (n m : Nat) (hn : s.length < n) (r : List Bytes) : pOne (pAny n) (m + 1) ([40] :: ((lexW s).1 ++ [41] :: r)) = some (x, r) :=
  one_par (h.any n _ hn (.inr ⟨r, rfl⟩))
theorem rd_test (e : S_Env) {s : Bytes} {x : S_Expr} (h : Rd s x) : testX e s = (hold e x, 0) := by
  unfold testX; rw [h.par]; rfl
theorem bad_test (e : S_Env) {s : Bytes} (h : (parX s).2 ≠ 0) : testX e s = (false, (parX s).2) ∧ ((parX s).2 == 0) = false := by
  have : ((parX s).2 == 0) = false := by simpa using h
  unfold testX; rw [this]; exact ⟨rfl, rfl⟩
/-! ### The texts of the laws -/
section
variable {a b : Bytes} {x y : S_Expr} (ha : Rd a x) (hb : Rd b y)
include ha
theorem par_text (hl : a.length ≤ 150) : parX (40 :: (a ++ [41])) = fin x := by
  have hc := ha.cnt
  refine par_of (m := 500) (W := [40] :: ((lexW a).1 ++ [[41]])) (by simp; omega) ?_ (by simp; omega) ?_
  · rw [lex_par ha.lex [], lexW_nil]
  · exact one_any (n := 499) (ha.one 499 499 (by omega) []) (.inl rfl)
include hb
end
theorem ml {n : Nat} (h : n ≤ 1000) : n ≤ maxLen := by unfold maxLen; omega
end Go.Proofs.YtdobepgddhbncaaGreatDoor
namespace Go.Proofs.YtdobepgddhbncaaGreatDoor
open Go Go.Pm
set_option linter.unusedSimpArgs false
set_option linter.unusedVariables false
theorem no36 {c : UInt8} {t : Bytes} (hq : (c == 39) = false) (hr : refN (c :: t) = 0) (h0 : wordN (c :: t) ≠ 0) : (c == 36) = false := by
  cases hc : c == 36 with
  | false => rfl
  | true =>
    exfalso
    rw [wordN_cons, hq, hr, beq_iff_eq.1 hc] at h0
    apply h0
    cases (t.head? == some 61) <;> rfl
theorem word_self {c : UInt8} {t : Bytes} (h0 : wordN (c :: t) ≠ 0) : ∃ t', (c :: t).take (wordN (c :: t)) = c :: t' ∧ wordN (c :: t') = (c :: t').length := by
  cases hq : c == 39 with
  | true =>
    have e := wordN_cons c t
    rw [hq, cond_true] at e
    cases hc : (cutC 39 t).2.2 with
    | false => rw [hc] at e; exact absurd e h0
    | true =>
      rw [hc, cond_true] at e
      have eb := cutC_back 39 t hc
      refine ⟨(cutC 39 t).1 ++ [39], ?_, ?_⟩
      · rw [e, List.take_succ_cons]
        congr 1
        have key : ∀ a b : Bytes, (a ++ 39 :: b).take (a.length + 1) = a ++ [39] := fun a b => by
          rw [show a ++ 39 :: b = (a ++ [39]) ++ b by simp]
          exact List.take_left' (by simp)
        have := key (cutC 39 t).1 (cutC 39 t).2.1
        rwa [← eb] at this
      · rw [wordN_cons, hq, cond_true, cutC_at 39 [] (cutC_pre 39 t hc)]
        simp
  | false =>
    rcases refN_cases (c :: t) with hr | hr
    · have h36 := no36 hq hr h0
      have e := wordN_cons c t
      have hz : ∀ u : Bytes, refN (c :: u) = 0 := fun u => refN_none (by rw [hasPre_head]; exact h36)
      rw [hq, cond_false, hr, show decide ((0 : Int) > 0) = false from rfl, cond_false] at e
      have e' : ∀ u : Bytes, wordN (c :: u) = bif isDig c || c == 45 then 1 + (tw isDig u).length else bif (u.head? == some 61) && sgnB c then 2 else bif oneB c then 1 else 0 := fun u => by
        rw [wordN_cons, hq, cond_false, hz u, show decide ((0 : Int) > 0) = false from rfl, cond_false]
      cases hd : isDig c || c == 45 with
      | true =>
        rw [hd, cond_true] at e
        refine ⟨tw isDig t, ?_, ?_⟩
        · rw [e, Nat.add_comm, List.take_succ_cons]
          congr 1
          have : (tw isDig t ++ dw isDig t).take (tw isDig t).length = tw isDig t := List.take_left' rfl
          rwa [tw_dw] at this
        · rw [e', hd, cond_true, List.length_cons]
          have h1 := tw_all isDig t
          have : tw isDig (tw isDig t) = tw isDig t := by
            have := tw_dw isDig (tw isDig t)
            generalize tw isDig t = u at h1 this ⊢
            clear this
            induction u with
            | nil => rfl
            | cons x u ih =>
              rw [List.all_cons, Bool.and_eq_true] at h1
              rw [tw_cons, h1.1, cond_true, ih h1.2]
          rw [this]; omega
      | false =>
        rw [hd, cond_false] at e
        cases hs : (t.head? == some 61) && sgnB c with
        | true =>
          rw [hs, cond_true] at e
          rw [Bool.and_eq_true, beq_iff_eq] at hs
          cases t with
          | nil => cases hs.1
          | cons y t =>
            have hy : y = 61 := Option.some.inj hs.1
            refine ⟨[y], by rw [e]; rfl, ?_⟩
            rw [e', hd, cond_false, hy, hs.2]; rfl
        | false =>
          rw [hs, cond_false] at e
          cases ho : oneB c with
          | false => rw [ho] at e; exact absurd e h0
          | true =>
            rw [ho, cond_true] at e
            refine ⟨[], by rw [e]; rfl, ?_⟩
            rw [e', hd, cond_false, ho]
            rfl
    · obtain ⟨p, v, hp, es, hl⟩ := refN_spec hr
      have e := wordN_cons c t
      rw [hq, cond_false, decide_eq_true hr, cond_true] at e
      have hpn : wordN (c :: t) = p.length := by rw [e, hl]; omega
      cases p with
      | nil => rw [hpn] at h0; exact absurd rfl h0
      | cons x p =>
        have hx : x = c := by rw [List.cons_append] at es; injection es with e1 _; exact e1.symm
        subst hx
        refine ⟨p, ?_, ?_⟩
        · rw [hpn, es]; exact List.take_left' rfl
        · have h1 := refN_at hp []
          rw [List.append_nil] at h1
          rw [wordN_cons, hq, cond_false, h1, decide_eq_true (by rw [List.length_cons]; omega), cond_true]; omega
def TokL (w : Bytes) : Prop := lexW w = ([w], true)
theorem tokL_of {c : UInt8} {t : Bytes} (hb : blk c = false) (h : wordN (c :: t) = (c :: t).length) : TokL (c :: t) := by
  unfold TokL
  rw [lexW_word hb (by rw [h]; simp), h, List.take_length, List.drop_length, lexW_nil]
theorem lex_tokL : ∀ (n : Nat) (s : Bytes), s.length ≤ n → (∀ w, w ∈ (lexW s).1 → TokL w) ∧ (lexW s).1.flatten.length ≤ s.length := by
  intro n
  induction n with
  | zero =>
    intro s h
    obtain rfl := List.length_eq_zero_iff.1 (Nat.le_zero.1 h)
    rw [lexW_nil]; exact ⟨fun w hw => (by cases hw), Nat.le_refl _⟩
  | succ n ih =>
    intro s h
    cases s with
    | nil => rw [lexW_nil]; exact ⟨fun w hw => (by cases hw), Nat.le_refl _⟩
    | cons c t =>
      rw [List.length_cons] at h
      cases hb : blk c with
      | true =>
        rw [lexW_blk t hb]
        obtain ⟨h1, h2⟩ := ih t (by omega)
        exact ⟨h1, by rw [List.length_cons]; omega⟩
      | false =>
        by_cases h0 : wordN (c :: t) = 0
        · rw [lexW_bad hb h0]; exact ⟨fun w hw => (by cases hw), Nat.zero_le _⟩
        · rw [lexW_word hb h0]
          have hle := wordN_le (c :: t)
          obtain ⟨h1, h2⟩ := ih ((c :: t).drop (wordN (c :: t))) (by rw [List.length_drop, List.length_cons]; omega)
          refine ⟨fun w hw => ?_, ?_⟩
          · rcases List.mem_cons.1 hw with rfl | hw
            · obtain ⟨t', e1, e2⟩ := word_self h0
              rw [e1]; exact tokL_of hb e2
            · exact h1 w hw
          · rw [List.flatten_cons, List.length_append, List.length_take]
            rw [List.length_drop] at h2
            omega
def jt (d : UInt8) : List Bytes → Bytes
  | [] => [d]
  | w :: ws => d :: (w ++ jt d ws)
theorem jt_tail (d : UInt8) : ∀ (ws : List Bytes), Lib.joinTail [d] ws ++ [d] = jt d ws
  | [] => rfl
  | w :: ws => by
    rw [jt, ← jt_tail d ws]
    unfold Lib.joinTail
    simp
theorem jt_len (d : UInt8) : ∀ (ws : List Bytes), (jt d ws).length = 1 + ws.length + ws.flatten.length
  | [] => rfl
  | w :: ws => by
    rw [jt, List.length_cons, List.length_append, jt_len d ws, List.flatten_cons, List.length_append, List.length_cons]; omega
theorem jt_cons (d : UInt8) (ws : List Bytes) : ∃ u, jt d ws = d :: u := by
  cases ws with
  | nil => exact ⟨[], rfl⟩
  | cons w ws => exact ⟨_, rfl⟩
theorem blk_dig {d : UInt8} (h : blk d = true) : isDig d = false ∧ d ≠ 61 := by
  have := byte_all (p := fun d => !blk d || (!isDig d && d != 61)) (by kernel_rfl) d
  rw [h] at this
  simpa using this
theorem lex_jt {d : UInt8} (hd : blk d = true) : ∀ (ws : List Bytes), (∀ w, w ∈ ws → TokL w) → lexW (jt d ws) = (ws, true)
  | [], _ => by rw [jt, lexW_blk _ hd, lexW_nil]
  | w :: ws, h => by
    have hw := h w (List.mem_cons_self ..)
    unfold TokL at hw
    have ih := lex_jt hd ws fun v hv => h v (List.mem_cons_of_mem _ hv)
    obtain ⟨u, hu⟩ := jt_cons d ws
    rw [jt, lexW_blk _ hd]
    rw [hu] at ih ⊢
    rw [lex_app (blk_dig hd).1 (blk_dig hd).2 u w.length w (Nat.le_refl _) (by rw [hw]), hw, ih]; rfl
theorem join_jt (d : UInt8) : ∀ (ws : List Bytes), ws ≠ [] → ([d] ++ Lib.join ws [d]) ++ [d] = jt d ws
  | [], h => absurd rfl h
  | w :: ws, _ => by
    rw [Lib.join_cons, jt, ← jt_tail]; simp
theorem lex_join {d : UInt8} (hd : blk d = true) {ws : List Bytes} (h : ∀ w, w ∈ ws → TokL w) : lexW (([d] ++ Lib.join ws [d]) ++ [d]) = (ws, true) := by
  cases ws with
  | nil => rw [Lib.join_nil]; show lexW (d :: d :: []) = _; rw [lexW_blk _ hd, lexW_blk _ hd, lexW_nil]
  | cons w ws => rw [join_jt d (w :: ws) (by simp)]; exact lex_jt hd _ h
theorem join_len2 (d : UInt8) (ws : List Bytes) : (([d] ++ Lib.join ws [d]) ++ [d]).length ≤ 2 + ws.length + ws.flatten.length := by
  cases ws with
  | nil => exact Nat.le_refl _
  | cons w ws => rw [join_jt d (w :: ws) (by simp), jt_len]; omega
theorem gap_eq (a2 : Bytes) : ∃ d, blk d = true ∧ (loopO (intarsialaw18_ExprSpaces_b1 a2) (([32] : Bytes), (0 : Int)) : Option Bytes) = some [d] := by
  cases a2 with
  | nil => exact ⟨32, rfl, by rw [loopO_eq]; rfl⟩
  | cons b t =>
    have hmin : imin (((b :: t).length : Nat) : Int) (1 : Int) = 1 := by
      unfold imin; rw [List.length_cons]; split <;> omega
    have stop : ∀ s4 : Bytes, loopO (intarsialaw18_ExprSpaces_b1 (b :: t)) (s4, (1 : Int)) = some s4 := fun s4 => by
      rw [loopO_eq]
      unfold intarsialaw18_ExprSpaces_b1
      dsimp only
      rw [hmin]; rfl
    have hidx : strings_IndexByte ([32, 9, 10, 13] : Bytes) (b.toNat : Int) = some (Lib.indexByte [32, 9, 10, 13] b) := by rw [IndexByte_eq, u8_nat]
    have hbody : intarsialaw18_ExprSpaces_b1 (b :: t) (([32] : Bytes), (0 : Int)) = some (.inl (bif blk b then [b] else [32], (1 : Int))) := by
      unfold intarsialaw18_ExprSpaces_b1
      dsimp only
      rw [hmin]
      show ((some b).bind fun x6 => (strings_IndexByte ([32, 9, 10, 13] : Bytes) (x6.toNat : Int)).bind fun x7 => _) = _
      simp only [Option.bind_some, hidx, indexByte_has]
      have : ([32, 9, 10, 13] : Bytes).contains b = blk b := byte_eq (p := fun b => ([32, 9, 10, 13] : Bytes).contains b) (q := blk) (by kernel_rfl) b
      rw [this]
      cases blk b with
      | true =>
        rw [cond_true, show (IntKind.i64.wrap ((0 : Int) + 1)) = ((1 : Nat) : Int) from rfl, slc_take (b :: t) 1 (by simp)]; rfl
      | false => rfl
    rw [loopO_eq, hbody]
    dsimp only
    rw [stop]
    cases hb : blk b with
    | true => exact ⟨b, hb, rfl⟩
    | false => exact ⟨32, rfl, rfl⟩
theorem rd_fin {x : S_Expr} (h : rightB x = true) : fin x = (x, 0) := by
  obtain ⟨h1, h2, h3⟩ := rightB_iff.1 h
  unfold fin
  rw [decide_eq_true h1, decide_eq_false (by omega)]; rfl
theorem ExprSpaces_true (e : S_Env) (s bl : Bytes) : intarsialaw18_ExprSpaces e s bl = some true := by
  unfold intarsialaw18_ExprSpaces
  rw [fewE_eq, Option.bind_some, show (120 : Int) = ((120 : Nat) : Int) from rfl, cut_eq, Option.bind_some]
  have he := fewE_sm e
  generalize fewE e = e at he ⊢
  have ls : (s.take 120).length ≤ 120 := by rw [List.length_take]; omega
  generalize s.take 120 = s at ls ⊢
  obtain ⟨d, hd, hgap⟩ := gap_eq bl
  rw [hgap, Option.bind_some]
  simp only [Test_eq he, Option.bind_some, Words_eq (s := s) (by omega), alive_eq]
  rcases rd_cases s with ⟨h, _⟩ | ⟨x, hx⟩
  · obtain ⟨t1, t2⟩ := bad_test e h
    have : ((testX e s).2 != (0 : Int)) = true := by rw [t1]; show (!((parX s).2 == 0)) = true; rw [t2]; rfl
    rw [this, t1]; rfl
  · rw [rd_test e hx, hx.lex]
    show ((strings_Join (lexW s).1 [d]).bind _) = _
    obtain ⟨k1, k2⟩ := lex_tokL s.length s (Nat.le_refl _)
    have k3 := hx.cnt
    have k4 := join_len2 d (lexW s).1
    have k5 : (Lib.join (lexW s).1 [d]).length ≤ 400 := by
      have k6 := k4
      rw [List.length_append, List.length_append] at k6
      omega
    have hj : strings_Join (lexW s).1 [d] = some (Lib.join (lexW s).1 [d]) := by
      unfold strings_Join; exact chk_pos ⟨(show (lexW s).1.length ≤ 140737488355328 by omega), (show (Lib.join (lexW s).1 [d]).length ≤ 140737488355328 by omega)⟩
    rw [hj, Option.bind_some, cat_ok (ml (by simp; omega)), Option.bind_some, cat_ok (ml (by simp; omega)), Option.bind_some, cat_ok (ml (by simp; omega)), Option.bind_some, cat_ok (ml (by simp; omega)), Option.bind_some]
    have p1 : parX (([d] ++ Lib.join (lexW s).1 [d]) ++ [d]) = fin x := by
      refine par_of (m := 500) (W := (lexW s).1) (by omega) (lex_join hd k1) (by omega) ?_
      have := hx.any 500 [] (by omega) (.inl rfl)
      rwa [List.append_nil] at this
    have p2 : parX (([40] ++ s) ++ [41]) = fin x := par_text (a := s) hx (by omega)
    rw [rd_fin hx.right] at p1 p2
    unfold testX
    rw [p1, p2]
    dsimp only
    simp
end Go.Proofs.YtdobepgddhbncaaGreatDoor
