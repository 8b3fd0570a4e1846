/-
  Plain laws of the plays, 3: what is parsed.
-/
import Derived.Test.YtkfoahoplndelaaGreatDoorPs2
namespace Go.Proofs.YtkfoahoplndelaaGreatDoor
open Go Go.Pm
set_option linter.unusedVariables false
set_option maxRecDepth 100000

/-! ### Words -/
theorem cutC_at (c : UInt8) : ∀ {a : Bytes} (t : Bytes), a.contains c = false → cutC c (a ++ c :: t) = (a, t, true)
  | [], t, _ => by simp [cutC]
  | x :: a, t, h => by
    rw [List.contains_cons, Bool.or_eq_false_iff] at h
    have hx : (x == c) = false := by
      cases hx : (x == c) with
      | false => rfl
      | true => rw [eq_of_beq hx] at h; simp at h
    rw [List.cons_append]
    unfold cutC
    rw [hx, cutC_at c t h.2]; rfl
theorem cutC_back (c : UInt8) (s : Bytes) (h : (cutC c s).2.2 = true) : s = (cutC c s).1 ++ c :: (cutC c s).2.1 := by
  induction s with
  | nil => cases h
  | cons x s ih =>
    unfold cutC at h ⊢
    cases hx : (x == c) with
    | true => rw [eq_of_beq hx]; rfl
    | false =>
      rw [hx] at h
      show x :: s = (x :: (cutC c s).1) ++ c :: (cutC c s).2.1
      rw [List.cons_append, ← ih h]
theorem split_join : ∀ (x : Bytes) (l : List Bytes), (∀ s, s ∈ x :: l → noSp s = true) → Lib.split (Lib.join (x :: l) [32]) [32] = x :: l
  | x, [], h => by rw [show Lib.join [x] [32] = x by simp [Lib.join, List.intercalate]]; exact split_no (h x (by simp))
  | x, y :: l, h => by
    have : Lib.join (x :: y :: l) [32] = x ++ 32 :: Lib.join (y :: l) [32] := by simp [Lib.join, List.intercalate, List.intersperse]
    rw [this, split_at _ (h x (by simp)), split_join y l fun s hs => h s (List.mem_cons_of_mem _ hs)]
def bl (b : UInt8) : Bool := b == 32 || b == 10
theorem noSp_bl {s : Bytes} (h : s.any bl = false) : noSp s = true := by
  unfold noSp
  cases hc : s.contains 32 with
  | false => rfl
  | true =>
    have := List.contains_iff_mem.1 hc
    rw [List.any_eq_false] at h
    exact absurd rfl (h 32 this)
theorem noNl_bl {s : Bytes} (h : s.any bl = false) : s.contains 10 = false := by
  cases hc : s.contains 10 with
  | false => rfl
  | true =>
    have := List.contains_iff_mem.1 hc
    rw [List.any_eq_false] at h
    exact absurd rfl (h 10 this)
theorem bl_of {p : UInt8 → Bool} {s : Bytes} (h : s.any p = false) (hp : p 32 = true ∧ p 10 = true) : s.any bl = false := by
  rw [List.any_eq_false] at h ⊢
  intro x hx hb
  unfold bl at hb
  rw [Bool.or_eq_true, beq_iff_eq, beq_iff_eq] at hb
  rcases hb with rfl | rfl
  · exact h _ hx hp.1
  · exact h _ hx hp.2
theorem bl_all {p : UInt8 → Bool} {s : Bytes} (h : s.all p = true) (hp : p 32 = false ∧ p 10 = false) : s.any bl = false := by
  refine bl_of (p := fun b => !(p b)) ?_ ⟨by rw [hp.1]; rfl, by rw [hp.2]; rfl⟩
  rw [List.any_eq_false]
  intro x hx hb
  rw [List.all_eq_true.1 h x hx] at hb
  cases hb
theorem host_bl {s : Bytes} (h : hostB s = true) : s.any bl = false := by
  unfold hostB at h
  rw [Bool.and_eq_true, Bool.not_eq_true'] at h
  exact bl_of h.2 ⟨rfl, rfl⟩
theorem token_bl {s : Bytes} (h : tokenB s = true) : s.any bl = false := by
  unfold tokenB at h
  rw [Bool.and_eq_true] at h
  exact bl_all h.2 ⟨rfl, rfl⟩
theorem dg_bl (n : Int) : (dg n).any bl = false := bl_all (digits_all _) ⟨rfl, rfl⟩
theorem hex_bl (s : Bytes) : (hexW s).any bl = false := by
  have h2 : ∀ b, (hex2 b).any bl = false := fun b => by
    have := byte_all (p := fun b => !((hex2 b).any bl)) (by kernel_rfl) b
    simpa using this
  unfold hexW
  rw [List.any_flatMap, List.any_eq_false]
  intro x _ hx
  rw [h2 x] at hx; cases hx
theorem wrd_bl {s : Bytes} (h : s.any bl = false) : (wrd s).any bl = false := by
  unfold wrd
  cases (s == ([] : Bytes)) with
  | true => rfl
  | false => exact h
theorem join_bl (sep : Bytes) (p : UInt8 → Bool) (hs : sep.any p = false) : ∀ (l : List Bytes), (∀ s, s ∈ l → s.any p = false) → (Lib.join l sep).any p = false
  | [], _ => by simp [Lib.join]
  | [x], h => by rw [show Lib.join [x] sep = x by simp [Lib.join, List.intercalate]]; exact h x (by simp)
  | x :: y :: l, h => by
    have : Lib.join (x :: y :: l) sep = x ++ (sep ++ Lib.join (y :: l) sep) := by simp [Lib.join, List.intercalate, List.intersperse]
    rw [this, List.any_append, List.any_append, h x (by simp), hs, join_bl sep p hs (y :: l) fun s hs => h s (List.mem_cons_of_mem _ hs)]
    rfl
theorem nl_of_bl {s : Bytes} (h : s.any bl = false) : s.any (fun b => b == 10) = false := by
  rw [List.any_eq_false] at h ⊢
  intro x hx hb
  exact h x hx (by unfold bl; rw [Bool.or_eq_true]; exact .inr hb)
theorem contains_any {s : Bytes} (h : s.any (fun b => b == 10) = false) : s.contains 10 = false := by
  cases hc : s.contains 10 with
  | false => rfl
  | true =>
    rw [List.any_eq_false] at h
    exact absurd rfl (h 10 (List.contains_iff_mem.1 hc))
theorem lineW_bl {d : S_Deed} : ∀ s, s ∈ lineW d → s.any bl = false := by
  intro s hs
  unfold lineW at hs
  repeat' split at hs
  all_goals simp at hs
  all_goals rcases hs with rfl | hs
  all_goals first | rfl | skip
  all_goals first | (rcases hs with rfl | rfl) | (subst hs)
  all_goals first | exact dg_bl _ | exact wrd_bl (hex_bl _) | (cases d.Clean <;> rfl)
theorem lineW_ne (d : S_Deed) : ∃ x l, lineW d = x :: l := by
  unfold lineW
  repeat' split
  all_goals exact ⟨_, _, rfl⟩
theorem line_split (d : S_Deed) : Lib.split (lineB d) [32] = lineW d := by
  obtain ⟨x, l, h⟩ := lineW_ne d
  have hb : ∀ s, s ∈ x :: l → noSp s = true := fun s hs => noSp_bl (lineW_bl s (by rw [h]; exact hs))
  unfold lineB
  rw [h]; exact split_join x l hb
theorem line_nl (d : S_Deed) : (lineB d).contains 10 = false := contains_any (join_bl [32] _ rfl _ fun s hs => nl_of_bl (lineW_bl s hs))
theorem wayW_bl {r : S_Route} (h : ROk r) : ∀ s, s ∈ [wRoute, wrd r.Host, r.Prefix, r.Origin] → s.any bl = false := by
  intro s hs
  simp at hs
  rcases hs with rfl | rfl | rfl | rfl
  · rfl
  · refine wrd_bl ?_
    rcases h.host with e | e
    · rw [e]; rfl
    · exact host_bl e
  · exact bl_of h.pre ⟨rfl, rfl⟩
  · exact host_bl h.origin
theorem way_split {r : S_Route} (h : ROk r) : Lib.split (wayB r) [32] = [wRoute, wrd r.Host, r.Prefix, r.Origin] := split_join _ _ fun s hs => noSp_bl (wayW_bl h s hs)
theorem way_nl {r : S_Route} (h : ROk r) : (wayB r).contains 10 = false := contains_any (join_bl [32] _ rfl _ fun s hs => nl_of_bl (wayW_bl h s hs))

/-! ### A route of a line -/
theorem get_eq (w : List Bytes) (k : Nat) (hk : k ≤ 10) : script_get w (k : Int) = some (w.getD k []) := by
  unfold script_get
  by_cases h : k < w.length
  · rw [show decide ((k : Int) ≥ (w.length : Int)) = false by simp; omega, cond_false, idx_at (List.getElem?_eq_getElem h), Option.bind_some]
    simp [List.getD, h]
  · rw [show decide ((k : Int) ≥ (w.length : Int)) = true by simp; omega, cond_true]
    simp [List.getD, h]
def routeW (w : List Bytes) : S_Route := S_Route.mk (bif w.getD 1 [] == ([45] : Bytes) then [] else w.getD 1 []) (w.getD 2 []) (w.getD 3 [])
theorem routeW_host (w : List Bytes) : (routeW w).Host ≠ [45] := by
  unfold routeW
  cases h : (w.getD 1 [] == ([45] : Bytes)) with
  | true => intro h; cases h
  | false => simpa using h
theorem getD_small {s : Bytes} (k : Nat) : ((Lib.split s [32]).getD k []).length ≤ s.length := by
  rw [List.getD_eq_getElem?_getD]
  cases h : (Lib.split s [32])[k]? with
  | none => exact Nat.zero_le _
  | some x => exact split_small x (List.mem_of_getElem? h)
theorem split_ok {s : Bytes} (hs : s.length ≤ 1000000000) : strings_Split s [32] = some (Lib.split s [32]) := by
  unfold strings_Split
  exact chk_pos ⟨Nat.le_refl _, by omega⟩
theorem parse_eq {s : Bytes} (hs : s.length ≤ 1000000000) (h : RSm (routeW (Lib.split s [32]))) : script_parse s = some (routeW (Lib.split s [32]), wayB (routeW (Lib.split s [32])) == s) := by
  unfold script_parse
  rw [split_ok hs, Option.bind_some]
  have g1 := get_eq (Lib.split s [32]) 1 (by omega)
  have g2 := get_eq (Lib.split s [32]) 2 (by omega)
  have g3 := get_eq (Lib.split s [32]) 3 (by omega)
  rw [show ((1 : Nat) : Int) = 1 from rfl] at g1
  rw [show ((2 : Nat) : Int) = 2 from rfl] at g2
  rw [show ((3 : Nat) : Int) = 3 from rfl] at g3
  rw [g1, Option.bind_some, g2, Option.bind_some, g3, Option.bind_some]
  unfold routeW at h ⊢
  cases hb : ((Lib.split s [32]).getD 1 [] == ([45] : Bytes)) with
  | true =>
    rw [hb] at h
    rw [cond_true] at h ⊢
    rw [way_eq h]; rfl
  | false =>
    rw [hb] at h
    rw [cond_false] at h ⊢
    rw [way_eq h]; rfl
theorem routeW_small {s : Bytes} (hs : s.length ≤ 100000) : RSm (routeW (Lib.split s [32])) := by
  refine ⟨?_, Nat.le_trans (getD_small 2) hs, Nat.le_trans (getD_small 3) hs⟩
  unfold routeW
  cases ((Lib.split s [32]).getD 1 [] == ([45] : Bytes)) with
  | true => exact Nat.zero_le _
  | false => exact Nat.le_trans (getD_small 1) hs
theorem parse_way {r : S_Route} (hs : RSm r) (h : ROk r) (hh : r.Host ≠ [45]) : script_parse (wayB r) = some (r, true) := by
  have hr : routeW (Lib.split (wayB r) [32]) = r := by
    rw [way_split h]
    unfold routeW
    show S_Route.mk (bif wrd r.Host == ([45] : Bytes) then [] else wrd r.Host) r.Prefix r.Origin = r
    have : (bif wrd r.Host == ([45] : Bytes) then ([] : Bytes) else wrd r.Host) = r.Host := by
      unfold wrd
      cases he : (r.Host == ([] : Bytes)) with
      | true => rw [eq_of_beq he]; rfl
      | false =>
        rw [cond_false]
        have : (r.Host == ([45] : Bytes)) = false := by simpa using hh
        rw [this]; rfl
    rw [this]
  have := way_len hs
  rw [parse_eq (by omega) (by rw [hr]; exact hs), hr]
  simp
/-- A deed's line is no route's. -/
theorem line_head (d : S_Deed) : ∃ b t, lineB d = b :: t ∧ b ≠ 114 ∧ b ≠ 100 := by
  unfold lineB lineW
  repeat' split
  all_goals first
    | exact ⟨105, _, rfl, by decide, by decide⟩
    | exact ⟨119, _, rfl, by decide, by decide⟩
    | exact ⟨108, _, rfl, by decide, by decide⟩
    | exact ⟨99, _, rfl, by decide, by decide⟩
    | exact ⟨103, _, rfl, by decide, by decide⟩
    | exact ⟨116, _, rfl, by decide, by decide⟩
theorem way_head (r : S_Route) : ∃ t, wayB r = 114 :: t := ⟨_, rfl⟩
theorem not_way {s : Bytes} {b : UInt8} {t : Bytes} (h : s = b :: t) (hb : b ≠ 114) (r : S_Route) : (wayB r == s) = false := by
  obtain ⟨u, hu⟩ := way_head r
  rw [hu, h]
  cases hc : ((114 :: u : Bytes) == b :: t) with
  | false => rfl
  | true =>
    have := eq_of_beq hc
    injection this with h1 _
    exact absurd h1.symm hb

/-! ### A deed of a line -/
def wds : List Bytes := [wIn, wWrite, wLeft, wCame, wGone, wTick]
theorem Index_words (a : Bytes) : slices_Index__string_string wds a = some (idxP (fun x => a == x) wds 0) := by
  unfold slices_Index__string_string
  rw [← foldE_idx]
  refine loop_list wds (fun i _ => (i : Int)) _ _ (fun i b => b = i) (fun i b x hx hi => ?_) (fun b hi => ?_) 0 rfl
  · subst hi
    have hlt := lt_of_get hx
    unfold slices_Index__string_string_b1
    rw [dlt_true hlt, cond_true, idx_at hx, Option.bind_some]
    cases (a == x) with
    | true => exact .inr ⟨_, rfl, rfl⟩
    | false => exact .inl ⟨_, rfl, by rw [wrap_inc hlt (by decide)]; rfl, rfl⟩
  · unfold slices_Index__string_string_b1
    rw [dlt_self]; rfl
theorem unhex_body (x y : UInt8) (t acc : Bytes) (hl : acc.length + t.length ≤ 900000) : (script_unhexed_b1 (x :: y :: t, acc) = some (.inr ([], false))) ∨ ∃ b, script_unhexed_b1 (x :: y :: t, acc) = some (.inl (t, acc ++ [b])) := by
  unfold script_unhexed_b1
  dsimp only
  have e : decide ((((x :: y :: t).length : Nat) : Int) ≥ (2 : Int)) = true := by simp; omega
  rw [e, cond_true, show idx (x :: y :: t) (0 : Int) = some x from idx0 x _, Option.bind_some, IndexByte_eq, Option.bind_some, show idx (x :: y :: t) (1 : Int) = some y from idx1 x y _, Option.bind_some, IndexByte_eq, Option.bind_some]
  cases (bif (decide (Lib.indexByte ([48, 49, 50, 51, 52, 53, 54, 55, 56, 57, 97, 98, 99, 100, 101, 102] : Bytes) (u8 (x.toNat : Int)) < (0 : Int))) then true else (decide (Lib.indexByte ([48, 49, 50, 51, 52, 53, 54, 55, 56, 57, 97, 98, 99, 100, 101, 102] : Bytes) (u8 (y.toNat : Int)) < (0 : Int)))) with
  | true => exact .inl rfl
  | false =>
    right
    rw [cond_false, chk_pos ⟨by omega, by decide⟩, app_ok (by simp; omega) (by omega), Option.bind_some]
    have : slc (x :: y :: t) (2 : Int) (((x :: y :: t).length : Nat) : Int) = some t := by
      unfold slc
      rw [chk_pos (by simp; omega)]
      show some ((t).take ((x :: y :: t).length - 2)) = _
      rw [List.take_of_length_le (by simp)]
    rw [this]
    exact ⟨_, rfl⟩
theorem unhex_end (s acc : Bytes) (h : s.length < 2) : script_unhexed_b1 (s, acc) = some (.inr (acc, s == ([] : Bytes))) := by
  unfold script_unhexed_b1
  dsimp only
  rw [show decide ((s.length : Int) ≥ (2 : Int)) = false by simp; omega]; rfl
theorem unhexed_tot {s : Bytes} (hs : s.length ≤ 500000) : Tot (script_unhexed s) (fun _ => True) := by
  unfold script_unhexed
  refine loop_tot (fun x : Bytes × Bytes => x.1.length) (fun x => x.2.length + x.1.length ≤ 500000) _ (fun x hx => ?_) _ (by simpa using hs)
  obtain ⟨t, acc⟩ := x
  match t, hx with
  | [], hx => exact .inr ⟨_, unhex_end _ _ (by simp), trivial⟩
  | [_], hx => exact .inr ⟨_, unhex_end _ _ (by simp), trivial⟩
  | x :: y :: t, hx =>
    simp at hx
    rcases unhex_body x y t acc (by omega) with h | ⟨b, h⟩
    · exact .inr ⟨_, h, trivial⟩
    · exact .inl ⟨_, h, by simp; omega, by simp; omega⟩
theorem unhex_hex (b : UInt8) (t acc : Bytes) (hl : acc.length + t.length ≤ 900000) : script_unhexed_b1 (hex2 b ++ t, acc) = some (.inl (t, acc ++ [b])) := by
  have hx : u8 ((hexit (b.toNat / 16)).toNat : Int) = hexit (b.toNat / 16) := u8_nat _
  have hy : u8 ((hexit (b.toNat % 16)).toNat : Int) = hexit (b.toNat % 16) := u8_nat _
  have k1 : Lib.indexByte hexs (hexit (b.toNat / 16)) = ((b.toNat / 16 : Nat) : Int) := of_decide_eq_true (byte_all (p := fun b => decide (Lib.indexByte hexs (hexit (b.toNat / 16)) = ((b.toNat / 16 : Nat) : Int))) (by kernel_rfl) b)
  have k2 : Lib.indexByte hexs (hexit (b.toNat % 16)) = ((b.toNat % 16 : Nat) : Int) := of_decide_eq_true (byte_all (p := fun b => decide (Lib.indexByte hexs (hexit (b.toNat % 16)) = ((b.toNat % 16 : Nat) : Int))) (by kernel_rfl) b)
  have k3 : u8 (IntKind.u8.wrap (bits .or .i64 (IntKind.i64.wrap (((b.toNat / 16 : Nat) : Int) * 2 ^ (4 : Int).toNat)) ((b.toNat % 16 : Nat) : Int))) = b := of_decide_eq_true (byte_all (p := fun b => decide (u8 (IntKind.u8.wrap (bits .or .i64 (IntKind.i64.wrap (((b.toNat / 16 : Nat) : Int) * 2 ^ (4 : Int).toNat)) ((b.toNat % 16 : Nat) : Int))) = b)) (by kernel_rfl) b)
  unfold script_unhexed_b1
  dsimp only
  have e : decide ((((hex2 b ++ t).length : Nat) : Int) ≥ (2 : Int)) = true := by simp [hex2]; omega
  rw [e, cond_true, show idx (hex2 b ++ t) (0 : Int) = some (hexit (b.toNat / 16)) from idx0 _ _, Option.bind_some, IndexByte_eq, Option.bind_some, show idx (hex2 b ++ t) (1 : Int) = some (hexit (b.toNat % 16)) from idx1 _ _ _, Option.bind_some, IndexByte_eq, Option.bind_some, hx, hy]
  rw [show ([48, 49, 50, 51, 52, 53, 54, 55, 56, 57, 97, 98, 99, 100, 101, 102] : Bytes) = hexs from rfl, k1, k2, k3]
  have e1 : decide (((b.toNat / 16 : Nat) : Int) < 0) = false := decide_eq_false (by omega)
  have e2 : decide (((b.toNat % 16 : Nat) : Int) < 0) = false := decide_eq_false (by omega)
  rw [e1, e2, cond_false, cond_false, chk_pos ⟨by omega, by decide⟩, app_ok (by simp; omega) (by omega), Option.bind_some]
  have : slc (hex2 b ++ t) (2 : Int) (((hex2 b ++ t).length : Nat) : Int) = some t := by
    unfold slc
    rw [chk_pos (by simp [hex2]; omega)]
    show some ((t).take ((hex2 b ++ t).length - 2)) = _
    rw [List.take_of_length_le (by simp [hex2])]
  rw [this]; rfl
theorem unhexed_hex {s : Bytes} (hs : s.length ≤ 100000) : script_unhexed (hexW s) = some (s, true) := by
  have key : ∀ (t acc : Bytes), acc.length + 2 * t.length ≤ 200000 → loopO script_unhexed_b1 (hexW t, acc) = some (acc ++ t, true) := by
    intro t
    induction t with
    | nil => intro acc _; rw [loopO_eq, show hexW [] = [] from rfl, unhex_end [] acc (by simp)]; simp
    | cons b t ih =>
      intro acc hl
      have e : hexW (b :: t) = hex2 b ++ hexW t := rfl
      rw [loopO_eq, e, unhex_hex b _ _ (by rw [hexW_len]; simp at hl; omega)]
      show loopO _ _ = _
      rw [ih (acc ++ [b]) (by simp at hl ⊢; omega)]
      simp
  exact key s [] (by simp; omega)
theorem last_idx {w : List Bytes} (hw : w ≠ []) (hl : w.length ≤ 1000000000) : ∃ x, x ∈ w ∧ w.getLast? = some x ∧ idx w (IntKind.i64.wrap ((w.length : Int) - (1 : Int))) = some x := by
  have h1 : 0 < w.length := List.length_pos_iff.2 hw
  have e : IntKind.i64.wrap ((w.length : Int) - (1 : Int)) = ((w.length - 1 : Nat) : Int) := by rw [wrap_i64 (by omega) (by omega)]; omega
  refine ⟨w[w.length - 1]'(by omega), List.getElem_mem _, ?_, ?_⟩
  · rw [List.getLast?_eq_getElem?]; exact List.getElem?_eq_getElem _
  · rw [e]; exact idx_at (List.getElem?_eq_getElem _)
theorem split_count {s : Bytes} : (Lib.split s [32]).length ≤ s.length + 1 := by
  have key : ∀ (k : Nat) (s : Bytes), (Lib.splitK [32] 0 k s).length ≤ s.length + 1 := by
    intro k
    induction k with
    | zero => intro s; simp [Lib.splitK]
    | succ k ih =>
      intro s
      unfold Lib.splitK
      split
      · simp
      · rename_i hne
        have hs : 1 ≤ s.length := by
          cases s with
          | nil => exact absurd rfl hne
          | cons b l => simp
        have := ih (s.drop ((Lib.index s [32]).toNat + ([32] : Bytes).length))
        rw [List.length_drop] at this
        simp at this ⊢; omega
  exact key _ s
theorem deed_tot {s : Bytes} (hs : s.length ≤ 500000) : Tot (script_deed s) (fun _ => True) := by
  unfold script_deed
  rw [split_ok (by omega), Option.bind_some]
  obtain ⟨x0, l0, hw⟩ := split_one s
  have hsm := split_small (s := s)
  have hcnt := split_count (s := s)
  have g1 := get_eq (Lib.split s [32]) 1 (by omega)
  rw [show ((1 : Nat) : Int) = 1 from rfl] at g1
  have hg1 := getD_small (s := s) 1
  obtain ⟨x, hx, _, hlast⟩ := last_idx (w := Lib.split s [32]) (by rw [hw]; simp) (by omega)
  unfold script_words
  rw [Option.bind_some, show idx (Lib.split s [32]) (0 : Int) = some x0 by rw [hw]; exact idx0 _ _, Option.bind_some]
  show Tot ((slices_Index__string_string wds x0).bind _) _
  rw [Index_words, Option.bind_some, g1, Option.bind_some, ReadDec_eq (big1 (by omega)), Option.bind_some, hlast, Option.bind_some]
  refine .bind (unhexed_tot (by have := hsm x hx; omega)) fun u _ => ?_
  refine .br (fun _ => .now trivial) fun _ => .br (fun _ => .now trivial) fun _ => .br (fun _ => .now trivial) fun _ => .br (fun _ => ?_) fun _ => .now trivial
  exact .now trivial
theorem deed_line {d : S_Deed} (h : DOk d) : script_deed (lineB d) = some d := by
  have hl := line_len h
  unfold script_deed
  rw [split_ok (by omega), Option.bind_some, line_split]
  unfold script_words
  rw [Option.bind_some]
  obtain ⟨⟨k1, k2⟩, ha, h3, hb, h5, h6⟩ := h
  obtain ⟨k, n, bs, c⟩ := d
  simp only at k1 k2 ha h3 hb h5 h6
  have hdec : dec (dg n) = (n, 0) := by
    have := dec_digits (n := n.toNat) (by omega)
    unfold dg
    rw [this, show ((n.toNat : Nat) : Int) = n by omega]
  have hdl := dg_le ha
  have hw := wrd_le (hexW bs)
  rw [hexW_len] at hw
  have hun : ∃ ok, script_unhexed (wrd (hexW bs)) = some (bs, ok) := by
    unfold wrd
    cases hc : (hexW bs == ([] : Bytes)) with
    | true =>
      have e : bs = [] := by
        have := congrArg List.length (eq_of_beq hc)
        rw [hexW_len] at this
        exact List.eq_nil_of_length_eq_zero (by simp at this; omega)
      subst e
      refine ⟨false, ?_⟩
      rw [cond_true]
      unfold script_unhexed
      rw [loopO_eq, unhex_end [45] [] (by simp)]; rfl
    | false => exact ⟨true, unhexed_hex (by omega)⟩
  obtain ⟨ok, hun⟩ := hun
  have hk : k = 1 ∨ k = 2 ∨ k = 3 ∨ k = 4 ∨ k = 5 ∨ k = 6 := by omega
  rcases hk with rfl | rfl | rfl | rfl | rfl | rfl
  · have hn : n = 0 := by omega
    have hc : c = false := h6.resolve_left (by omega)
    subst hn hc
    show ((slices_Index__string_string wds wIn).bind fun x4 => (script_get [wIn, wrd (hexW bs)] ((1 : Nat) : Int)).bind fun x5 => (number_ReadDec x5).bind fun x6 => (some (wrd (hexW bs))).bind fun x7 => (script_unhexed x7).bind _) = _
    rw [Index_words, Option.bind_some, get_eq _ 1 (by omega), Option.bind_some, ReadDec_eq (big1 (by show (wrd (hexW bs)).length ≤ _; omega)), Option.bind_some, Option.bind_some, hun, Option.bind_some]
    rfl
  · have hbs : bs = [] := (h5.resolve_left (by omega)).resolve_left (by omega)
    have hc : c = false := h6.resolve_left (by omega)
    subst hbs hc
    show ((slices_Index__string_string wds wWrite).bind fun x4 => (script_get [wWrite, dg n] ((1 : Nat) : Int)).bind fun x5 => (number_ReadDec x5).bind fun x6 => (some (dg n)).bind fun x7 => (script_unhexed x7).bind _) = _
    obtain ⟨u, hu, _⟩ := unhexed_tot (s := dg n) (by omega)
    rw [Index_words, Option.bind_some, get_eq _ 1 (by omega), Option.bind_some, ReadDec_eq (big1 (by show (dg n).length ≤ _; omega)), Option.bind_some, Option.bind_some, hu, Option.bind_some]
    show some (S_Deed.mk 2 (IntKind.i64.wrap (dec (dg n)).1) [] false) = _
    rw [hdec, wrap_i64 (by omega) (by omega)]
  · have hn : n = 0 := by omega
    have hbs : bs = [] := (h5.resolve_left (by omega)).resolve_left (by omega)
    have hc : c = false := h6.resolve_left (by omega)
    subst hn hbs hc
    show ((slices_Index__string_string wds wLeft).bind fun x4 => (script_get [wLeft] ((1 : Nat) : Int)).bind fun x5 => (number_ReadDec x5).bind fun x6 => (some wLeft).bind fun x7 => (script_unhexed x7).bind _) = _
    obtain ⟨u, hu, _⟩ := unhexed_tot (s := wLeft) (by decide)
    rw [Index_words, Option.bind_some, get_eq _ 1 (by omega), Option.bind_some, ReadDec_eq (by decide), Option.bind_some, Option.bind_some, hu, Option.bind_some]
    rfl
  · have hc : c = false := h6.resolve_left (by omega)
    subst hc
    show ((slices_Index__string_string wds wCame).bind fun x4 => (script_get [wCame, dg n, wrd (hexW bs)] ((1 : Nat) : Int)).bind fun x5 => (number_ReadDec x5).bind fun x6 => (some (wrd (hexW bs))).bind fun x7 => (script_unhexed x7).bind _) = _
    rw [Index_words, Option.bind_some, get_eq _ 1 (by omega), Option.bind_some, ReadDec_eq (big1 (by show (dg n).length ≤ _; omega)), Option.bind_some, Option.bind_some, hun, Option.bind_some]
    show some (S_Deed.mk 4 (IntKind.i64.wrap (dec (dg n)).1) bs false) = _
    rw [hdec, wrap_i64 (by omega) (by omega)]
  · have hbs : bs = [] := (h5.resolve_left (by omega)).resolve_left (by omega)
    subst hbs
    have hlast : ∀ x : Bytes, idx [wGone, dg n, x] (IntKind.i64.wrap ((([wGone, dg n, x].length : Nat) : Int) - (1 : Int))) = some x := fun x => rfl
    have hu : ∃ u, script_unhexed (bif c then clean else torn) = some u := by
      cases c with
      | true => obtain ⟨u, hu, _⟩ := unhexed_tot (s := clean) (by decide); exact ⟨u, hu⟩
      | false => obtain ⟨u, hu, _⟩ := unhexed_tot (s := torn) (by decide); exact ⟨u, hu⟩
    obtain ⟨u, hu⟩ := hu
    show ((slices_Index__string_string wds wGone).bind fun x4 => (script_get [wGone, dg n, bif c then clean else torn] ((1 : Nat) : Int)).bind fun x5 => (number_ReadDec x5).bind fun x6 => (some (bif c then clean else torn)).bind fun x7 => (script_unhexed x7).bind _) = _
    rw [Index_words, Option.bind_some, get_eq _ 1 (by omega), Option.bind_some, ReadDec_eq (big1 (by show (dg n).length ≤ _; omega)), Option.bind_some, Option.bind_some, hu, Option.bind_some]
    show some (S_Deed.mk 5 (IntKind.i64.wrap (dec (dg n)).1) [] ((bif c then clean else torn) == clean)) = _
    rw [hdec, wrap_i64 (by omega) (by omega)]
    cases c <;> rfl
  · have hn : n = 0 := by omega
    have hbs : bs = [] := (h5.resolve_left (by omega)).resolve_left (by omega)
    have hc : c = false := h6.resolve_left (by omega)
    subst hn hbs hc
    show ((slices_Index__string_string wds wTick).bind fun x4 => (script_get [wTick] ((1 : Nat) : Int)).bind fun x5 => (number_ReadDec x5).bind fun x6 => (some wTick).bind fun x7 => (script_unhexed x7).bind _) = _
    obtain ⟨u, hu, _⟩ := unhexed_tot (s := wTick) (by decide)
    rw [Index_words, Option.bind_some, get_eq _ 1 (by omega), Option.bind_some, ReadDec_eq (by decide), Option.bind_some, Option.bind_some, hu, Option.bind_some]
    rfl
end Go.Proofs.YtkfoahoplndelaaGreatDoor
