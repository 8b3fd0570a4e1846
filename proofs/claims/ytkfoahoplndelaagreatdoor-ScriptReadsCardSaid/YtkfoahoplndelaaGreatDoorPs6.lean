/-
  Plain laws of the plays, 6: ScriptLines holds.
-/
import Derived.Test.YtkfoahoplndelaaGreatDoorPs5
namespace Go.Proofs.YtkfoahoplndelaaGreatDoor
open Go Go.Pm
set_option linter.unusedVariables false
set_option maxRecDepth 100000

theorem way_short {r : S_Route} (h : RFew r) : (wayB r).length ≤ 1000 := by
  have h1 := h.host
  have h2 := h.pre
  have h3 := h.origin
  have hw := wrd_le r.Host
  have := join_len [32] 200 [wRoute, wrd r.Host, r.Prefix, r.Origin] (fun s hs => by
    simp at hs
    rcases hs with rfl | rfl | rfl | rfl
    · decide
    · simp; omega
    · simp; omega
    · simp; omega)
  unfold wayB
  simp at this ⊢; omega
def restB (p : S_Plan) : Bytes := (p.Routes.flatMap fun r => nl (wayB r)) ++ p.Deeds.flatMap fun d => nl (lineB d)
theorem text_rest (p : S_Plan) : textB p = nl (wDev ++ p.Device) ++ restB p := rfl
/-- The first line behind the first one. -/
theorem rest_head {p : S_Plan} (hf : PFew p) (h : PGood p) : restB p = [] ∨ ∃ (b : UInt8) (a t : Bytes), restB p = nl (b :: a) ++ t ∧ b ≠ 100 ∧ (b :: a).contains 10 = false ∧ (b :: a).length ≤ 100000 := by
  obtain ⟨f1, f2, f3, f4, f5⟩ := h.facts
  unfold restB
  cases hr : p.Routes with
  | cons r l =>
    right
    have hm : r ∈ p.Routes := by rw [hr]; simp
    obtain ⟨t, ht⟩ := way_head r
    have h1 := way_nl (rr_ok (h.small.routes r hm) ((routesB_all f2).1 r hm))
    have h2 := way_short (hf.routes r hm)
    refine ⟨114, t, (l.flatMap fun r => nl (wayB r)) ++ p.Deeds.flatMap fun d => nl (lineB d), ?_, by decide, by rw [← ht]; exact h1, by rw [← ht]; omega⟩
    rw [← ht, List.flatMap_cons, List.append_assoc]
  | nil =>
    cases hd : p.Deeds with
    | nil => left; rfl
    | cons d l =>
      right
      have hm : d ∈ p.Deeds := by rw [hd]; simp
      obtain ⟨b, t, ht, _, hb⟩ := line_head d
      have h1 := line_nl d
      have h2 := line_len (rightD_ok (f5 d hm))
      refine ⟨b, t, l.flatMap fun d => nl (lineB d), ?_, hb, by rw [← ht]; exact h1, by rw [← ht]; omega⟩
      rw [← ht, List.flatMap_nil, List.nil_append, List.flatMap_cons]
theorem rest_none {p : S_Plan} (hf : PFew p) (h : PGood p) : script_Parse (restB p) = some (zeroP, 250, 1) := by
  have hl := text_len h
  rw [text_rest, List.length_append] at hl
  unfold script_Parse
  show loopO script_Parse_b1 (restB p, (1 : Int), zeroP) = _
  rw [loopO_eq]
  rcases rest_head hf h with e | ⟨b, a, t, e, hb, h1, h2⟩
  · rw [e, round_first (s1 := []) (p := zeroP) (text := []) (behind := []) (is := false) (by simp) rfl (by simp) rfl]
    rfl
  · rw [round_first (s1 := restB p) (p := zeroP) (by omega) (by rw [e]; exact nl_cut t h1) h2 rfl]
    have : (wDev ++ (bif hasPre (b :: a) wDev then (b :: a).drop 7 else b :: a) == b :: a) = false := by
      cases hc : (wDev ++ (bif hasPre (b :: a) wDev then (b :: a).drop 7 else b :: a) == b :: a) with
      | false => rfl
      | true =>
        have := eq_of_beq hc
        injection this with h3 _
        exact absurd h3.symm hb
    rw [this, Bool.and_false]; rfl
theorem dev_nl {x : Bytes} (h : tokenB x = true) : (wDev ++ x).contains 10 = false := by
  have := noNl_bl (token_bl h)
  rw [List.contains_eq_any_beq] at this ⊢
  rw [List.any_append, this]; rfl
theorem again_none {p : S_Plan} (h : PGood p) : script_Parse (textB p ++ nl (wDev ++ p.Device)) = some (zeroP, 250, (2 : Int) + p.Routes.length + p.Deeds.length) := by
  obtain ⟨f1, f2, f3, f4, f5⟩ := h.facts
  have hnr := (routesB_all f2).2
  have hd7 : (wDev ++ p.Device).length = p.Device.length + 7 := by rw [List.length_append]; show 7 + _ = _; omega
  have hlen : (nl (wDev ++ p.Device)).length ≤ 100 := by unfold nl; rw [List.length_append, hd7]; simp; omega
  unfold script_Parse
  show loopO script_Parse_b1 (_, (1 : Int), zeroP) = _
  rw [run_text h _ (by omega), loopO_eq]
  have hcut : cutC 10 (nl (wDev ++ p.Device)) = (wDev ++ p.Device, [], true) := by
    have := nl_cut (a := wDev ++ p.Device) [] (dev_nl f1.1)
    rwa [List.append_nil] at this
  have hrs := routeW_small (s := wDev ++ p.Device) (by omega)
  have hr := parse_eq (s := wDev ++ p.Device) (by omega) hrs
  rw [not_way (s := wDev ++ p.Device) (b := 100) rfl (by decide)] at hr
  obtain ⟨d, hd, _⟩ := deed_tot (s := wDev ++ p.Device) (by omega)
  have hb := round_more (s1 := nl (wDev ++ p.Device)) (p := p) (no := (2 : Int) + p.Routes.length + p.Deeds.length) (by omega) (by unfold nl; simp) (by omega) hcut hr hd h.small hrs
  have hl : (lineB d == wDev ++ p.Device) = false := by
    obtain ⟨b, u, hbu, _, hb2⟩ := line_head d
    cases hc : (lineB d == wDev ++ p.Device) with
    | false => rfl
    | true =>
      have := eq_of_beq hc
      rw [hbu] at this
      injection this with h3 _
      exact absurd h3 hb2
  unfold stepB at hb
  rw [hl, Bool.and_false, Bool.and_false] at hb
  rw [hb]; rfl
theorem count_line {s : Bytes} (h : s.contains 10 = false) : (nl s).count 10 = 1 := by
  unfold nl
  rw [List.count_append, List.count_eq_zero_of_not_mem (by intro hm; rw [List.contains_iff_mem.2 hm] at h; cases h)]
  rfl
theorem count_flat {α : Type} (f : α → Bytes) : ∀ (l : List α), (∀ x, x ∈ l → (f x).contains 10 = false) → (l.flatMap fun x => nl (f x)).count 10 = l.length
  | [], _ => rfl
  | x :: l, h => by
    rw [List.flatMap_cons, List.count_append, count_line (h x (by simp)), count_flat f l fun y hy => h y (List.mem_cons_of_mem _ hy), List.length_cons]; omega
theorem count_text {p : S_Plan} (h : PGood p) : strings_Count (textB p) [10] = some (((1 + (p.Routes.length + p.Deeds.length) : Nat) : Nat) : Int) := by
  obtain ⟨f1, f2, f3, f4, f5⟩ := h.facts
  have e : (textB p).count 10 = 1 + (p.Routes.length + p.Deeds.length) := by
    unfold textB
    rw [List.count_append, List.count_append, count_line (dev_nl f1.1), count_flat wayB _ (fun r hr => way_nl (rr_ok (h.small.routes r hr) ((routesB_all f2).1 r hr))), count_flat lineB _ (fun d _ => line_nl d)]
  unfold strings_Count
  show ((bytealg_CountString (textB p) (10 : Int)).bind fun x3 => some x3) = _
  show some (((textB p).count 10 : Nat) : Int) = _
  rw [e]
theorem ScriptLines_true (p : S_Plan) : intarsialaw25_ScriptLines p = some true := by
  unfold intarsialaw25_ScriptLines
  obtain ⟨q, hq, hf⟩ := few_tot p
  have hs := hf.small
  rw [hq, Option.bind_some, SPrint_eq hs, Option.bind_some]
  cases hb : planB q with
  | false =>
    show ((intarsialaw25_alive).bind fun x3 => _) = _
    rw [alive_eq]; rfl
  | true =>
    have hg : PGood q := ⟨hs, hb⟩
    obtain ⟨f1, f2, f3, f4, f5⟩ := hg.facts
    have hnr := (routesB_all f2).2
    have hlen := text_len hg
    have hd7 : (wDev ++ q.Device).length = q.Device.length + 7 := by rw [List.length_append]; show 7 + _ = _; omega
    show ((strings_Cut (textB q) ([10] : Bytes)).bind fun x4 => _) = _
    have hcut : cutC 10 (textB q) = (wDev ++ q.Device, restB q, true) := by rw [text_rest]; exact nl_cut _ (dev_nl f1.1)
    rw [Cut_one 10 (by unfold maxLen; omega), Option.bind_some, hcut]
    show ((script_Parse (restB q)).bind fun x5 => (cat (textB q) (wDev ++ q.Device)).bind fun x6 => _) = _
    rw [rest_none hf hg, Option.bind_some, cat_ok (by unfold maxLen; omega), Option.bind_some, cat_ok (show (textB q ++ (wDev ++ q.Device)).length + 1 ≤ maxLen by rw [List.length_append]; unfold maxLen; omega), Option.bind_some]
    have e : textB q ++ (wDev ++ q.Device) ++ [10] = textB q ++ nl (wDev ++ q.Device) := by unfold nl; rw [List.append_assoc]
    rw [e, again_none hg, Option.bind_some, alive_eq, Option.bind_some, gcall_tt rfl]
    show ((strings_Count (textB q) ([10] : Bytes)).bind fun x10 => _) = _
    rw [count_text hg, Option.bind_some]
    have w1 : IntKind.i64.wrap (((q.Deeds).length : Int) + ((q.Routes).length : Int)) = ((q.Deeds.length + q.Routes.length : Nat) : Int) := by rw [wrap_i64 (by omega) (by omega)]; simp
    have w2 : IntKind.i64.wrap (((q.Deeds.length + q.Routes.length : Nat) : Int) + (1 : Int)) = ((1 + (q.Routes.length + q.Deeds.length) : Nat) : Int) := by rw [wrap_i64 (by omega) (by omega)]; simp; omega
    have w3 : IntKind.i64.wrap (((q.Deeds.length + q.Routes.length : Nat) : Int) + (2 : Int)) = (2 : Int) + q.Routes.length + q.Deeds.length := by rw [wrap_i64 (by omega) (by omega)]; simp; omega
    rw [w1, w2, w3]
    simp
end Go.Proofs.YtkfoahoplndelaaGreatDoor
