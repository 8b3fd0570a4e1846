/-
  Plain laws of the plays, 5: a few deeds, the plan that may be, ScriptBack and ScriptLines hold.
-/
import Derived.Test.YtkfoahoplndelaaGreatDoorPs4
namespace Go.Proofs.YtkfoahoplndelaaGreatDoor
open Go Go.Pm
set_option linter.unusedVariables false
set_option maxRecDepth 100000

/-! ### A few deeds -/
structure RFew (r : S_Route) : Prop where
  host : r.Host.length ≤ 120
  pre : r.Prefix.length ≤ 120
  origin : r.Origin.length ≤ 120
theorem RFew.small {r : S_Route} (h : RFew r) : RSm r := ⟨by have := h.host; omega, by have := h.pre; omega, by have := h.origin; omega⟩
structure PFew (p : S_Plan) : Prop where
  dev : p.Device.length ≤ 60
  nr : p.Routes.length ≤ 20
  routes : ∀ r, r ∈ p.Routes → RFew r
  nd : p.Deeds.length ≤ 205
theorem PFew.small {p : S_Plan} (h : PFew p) : PSm p := ⟨by have := h.dev; omega, by have := h.nr; omega, fun r hr => (h.routes r hr).small, by have := h.nd; omega⟩
theorem few1 {l : List S_Route} (hl : l.length ≤ 20) : Tot (loopO (intarsialaw25_few_b1 l) ((0 : Int), l)) (fun l' => l'.length = l.length ∧ ∀ r, r ∈ l' → RFew r) := by
  refine loop_tot (fun x : Int × List S_Route => l.length - x.1.toNat) (fun x => 0 ≤ x.1 ∧ x.1 ≤ l.length ∧ x.2.length = l.length ∧ ∀ (k : Nat) (r : S_Route), (k : Int) < x.1 → x.2[k]? = some r → RFew r) _ (fun x hx => ?_) _ ⟨Int.le_refl _, by simp, rfl, fun k r h => by simp at h; omega⟩
  obtain ⟨s5, s6⟩ := x
  obtain ⟨h1, h2, h3, h4⟩ := hx
  simp only at h1 h2 h3 h4
  obtain ⟨i, rfl⟩ : ∃ i : Nat, s5 = i := ⟨s5.toNat, by omega⟩
  unfold intarsialaw25_few_b1
  dsimp only
  by_cases h : i < l.length
  · have hi : i < s6.length := by omega
    rw [dlt_true h, cond_true, chk_pos ⟨h1, by omega⟩, idx_at (List.getElem?_eq_getElem hi), Option.bind_some, slc_cut (K := 120) _ 120 rfl, Option.bind_some, slc_cut (K := 120) _ 120 rfl, Option.bind_some, slc_cut (K := 120) _ 120 rfl, Option.bind_some, chk_pos ⟨h1, by omega⟩, seti_at hi, Option.bind_some, wrap_inc h (big1 (by omega))]
    refine .inl ⟨_, rfl, ⟨by simp; omega, by simp; omega, by simp; exact h3, fun k r hk hr => ?_⟩, by simp; omega⟩
    simp only at hk hr
    rw [List.getElem?_set] at hr
    split at hr
    · rename_i he
      subst he
      injection hr with hr
      subst hr
      exact ⟨by simp; omega, by simp; omega, by simp; omega⟩
    · exact h4 k r (by omega) hr
  · have hi : i = l.length := by omega
    subst hi
    rw [dlt_self]
    refine .inr ⟨_, rfl, h3, fun r hr => ?_⟩
    obtain ⟨k, hk⟩ := List.getElem?_of_mem hr
    exact h4 k r (by have := lt_of_get hk; omega) hk
theorem few2 {l : List S_Deed} (hl : l.length ≤ 205) : Tot (loopO (intarsialaw25_few_b2 l) ((0 : Int), l)) (fun l' => l'.length = l.length) := by
  refine loop_tot (fun x : Int × List S_Deed => l.length - x.1.toNat) (fun x => 0 ≤ x.1 ∧ x.1 ≤ l.length ∧ x.2.length = l.length) _ (fun x hx => ?_) _ ⟨Int.le_refl _, by simp, rfl⟩
  obtain ⟨s5, s6⟩ := x
  obtain ⟨h1, h2, h3⟩ := hx
  simp only at h1 h2 h3
  obtain ⟨i, rfl⟩ : ∃ i : Nat, s5 = i := ⟨s5.toNat, by omega⟩
  unfold intarsialaw25_few_b2
  dsimp only
  by_cases h : i < l.length
  · have hi : i < s6.length := by omega
    rw [dlt_true h, cond_true, chk_pos ⟨h1, by omega⟩, idx_at (List.getElem?_eq_getElem hi), Option.bind_some, slc_cut (K := 3010) _ 3010 rfl, Option.bind_some, chk_pos ⟨h1, by omega⟩, Option.bind_some, wrap_inc h (big1 (by omega))]
    exact .inl ⟨_, rfl, ⟨by simp; omega, by simp; omega, by simp; exact h3⟩, by simp; omega⟩
  · have hi : i = l.length := by omega
    subst hi
    rw [dlt_self]
    exact .inr ⟨_, rfl, h3⟩
theorem few_tot (p : S_Plan) : Tot (intarsialaw25_few p) PFew := by
  unfold intarsialaw25_few
  rw [slc_cut (K := 60) _ 60 rfl, Option.bind_some, slc_cut (K := 20) _ 20 rfl, Option.bind_some, chk_pos ⟨by simp [maxLen]; omega, by simp; omega⟩]
  have h1 : (p.Routes.take 20).length ≤ 20 := by simp; omega
  have h2 : (p.Deeds.take 205).length ≤ 205 := by simp; omega
  refine .bind (few1 h1) fun l hl => ?_
  rw [slc_cut (K := 205) _ 205 rfl, Option.bind_some, chk_pos ⟨by simp [maxLen]; omega, by simp; omega⟩]
  refine .bind (few2 h2) fun m hm => ?_
  rw [chk_pos (by omega), chk_pos (by omega)]
  refine .now ⟨by simp; omega, by simp; omega, fun r hr => hl.2 r (List.mem_of_mem_take hr), by simp; omega⟩

/-! ### The plan that may be -/
theorem uparse (c : UInt8) (hc : c = 104 ∨ c = 111) : uri_Parse (http ++ [c, 47]) = some (S_Uri.mk true [c] 0 [47] false [], 0) := by
  have e2 : text_Same http ([104, 116, 116, 112, 58, 47, 47] : Bytes) = some true := by rw [Same_eq (by decide) (by decide)]; rfl
  have e5 : strings_IndexAny [c, 47] [47, 63] = some 1 := by
    rcases hc with rfl | rfl
    all_goals exact (loopO_some.2 ⟨2, by kernel_rfl⟩ : loopO (strings_IndexAny_b3 _ [47, 63]) 0 = some 1)
  have e6 : uri_place [c] (S_Uri.mk false ([] : Bytes) (0 : Int) ([] : Bytes) false ([] : Bytes)) = some (S_Uri.mk true [c] 0 [] false [], true) := by
    have h1 : text_Lower [c] = some [c] := by
      rw [Lower_eq (s := [c]) (big1 (by show 1 ≤ 1000000; decide))]
      rcases hc with rfl | rfl <;> rfl
    have h2 : strings_LastIndexByte [c] 58 = some (-1) := by
      unfold strings_LastIndexByte bytealg_LastIndexByteString
      have : loopO (bytealg_LastIndexByteString_b1 [c] 58) (IntKind.i64.wrap ((([c] : Bytes).length : Int) - (1 : Int))) = some (-1) := by
        rcases hc with rfl | rfl
        all_goals exact loopO_some.2 ⟨2, by kernel_rfl⟩
      rw [this]; rfl
    unfold uri_place
    rw [h1, h2]; rfl
  have e7 : uri_path [47] (S_Uri.mk true [c] 0 [] false []) = some (S_Uri.mk true [c] 0 [47] false []) := by kernel_rfl
  have e8 : uri_Right (S_Uri.mk true [c] 0 [47] false []) = some true := by
    have h1 : uri_bytes [47] = some true := by rw [bytes_eq (s := [47]) (big1 (by decide))]; rfl
    have h2 : uri_bytes [] = some true := by rw [bytes_eq (s := []) (big1 (by decide))]; rfl
    have h3 : strings_Contains [47] [63] = some false := by kernel_rfl
    have h4 : uri_write (S_Uri.mk true [c] 0 [47] false []) = some (http ++ [c, 47]) := by
      rcases hc with rfl | rfl
      all_goals kernel_rfl
    have h5 : uri_host [c] = some true := by
      unfold uri_host
      rw [ContainsFunc_byte (l := [c]) badH host1_eq (big1 (by show 1 ≤ 1000000; decide))]
      rcases hc with rfl | rfl
      all_goals rfl
    have h6 : strings_HasPrefix [47] [47] = some true := by kernel_rfl
    unfold uri_Right
    dsimp only
    rw [h1, Option.bind_some, gcall_val (fun _ => h2), Option.bind_some, gcall_val (fun _ => h3), Option.bind_some, gcall_val (fun _ => h4), Option.bind_some, h5, Option.bind_some, gcall_val (fun _ => h6), Option.bind_some]
    rfl
  unfold uri_Parse
  have e0 : decide ((((http ++ [c, 47]).length : Nat) : Int) > (500 : Int)) = false := rfl
  have e1 : gslc (decide ((((http ++ [c, 47]).length : Nat) : Int) ≥ (7 : Int))) (http ++ [c, 47]) 0 (7 : Int) = some http := rfl
  have e1' : decide ((((http ++ [c, 47]).length : Nat) : Int) ≥ (7 : Int)) = true := rfl
  have e4 : slc (http ++ [c, 47]) (7 : Int) (((http ++ [c, 47]).length : Nat) : Int) = some [c, 47] := rfl
  rw [e0, cond_false, e1, Option.bind_some, gcall_val (fun _ => e2), Option.bind_some, e1', cond_true, cond_true, cond_true, e4, Option.bind_some, e5, Option.bind_some]
  show ((uri_place [c] (S_Uri.mk false ([] : Bytes) (0 : Int) ([] : Bytes) false ([] : Bytes))).bind fun x15 => _) = _
  rw [e6, Option.bind_some]
  have e9 : slc [c, 47] (1 : Int) ((([c, 47] : Bytes).length : Nat) : Int) = some [47] := rfl
  have e10 : gidx (!(([47] : Bytes) == ([] : Bytes))) ([47] : Bytes) (0 : Int) = some 47 := rfl
  have e11 : (bif (([47] : Bytes) == ([] : Bytes)) then true else (((47 : UInt8).toNat : Int) == (63 : Int))) = false := rfl
  rw [e9, Option.bind_some, e10, Option.bind_some, e11, cond_false, e7, Option.bind_some, gcall_val (fun _ => e8), Option.bind_some]
  rfl
def oneR : S_Route := S_Route.mk [] [47] [111]
theorem one_rr : rr oneR = true := by
  have h1 : route_host [111] = some true := by
    unfold route_host
    show ((uri_Parse (http ++ [111, 47])).bind fun x3 => _) = _
    rw [uparse 111 (.inr rfl), Option.bind_some]; rfl
  have h2 : route_right oneR = some true := by
    unfold route_right
    show ((uri_Parse (http ++ [104, 47])).bind fun x3 => _) = _
    rw [uparse 104 (.inl rfl), Option.bind_some]
    show ((gcall _ (route_host [111])).bind fun x4 => _) = _
    rw [gcall_val (fun _ => h1)]; rfl
  unfold rr; rw [h2]; rfl
def oneP : S_Plan := S_Plan.mk [100] [oneR] []
theorem one_good : PGood oneP := by
  refine ⟨⟨by decide, by decide, fun r hr => ?_, by decide⟩, ?_⟩
  · simp [oneP] at hr; subst hr; exact ⟨by decide, by decide, by decide⟩
  · have e : planB oneP = ((tokenB [100] && decide (([100] : Bytes).length ≤ 40)) && (((rr oneR && true) && (decide (([oneR] : List S_Route).length ≤ 16) && ((kmap [oneR] []).length == ([oneR] : List S_Route).length))) && ((([oneR] : List S_Route).all fun r => !(r.Host == ([45] : Bytes))) && (decide ((0 : Nat) ≤ 200) && true)))) := rfl
    rw [e, one_rr]; rfl
theorem alive_eq : intarsialaw25_alive = some true := by
  unfold intarsialaw25_alive
  have e : textB oneP = ([100, 101, 118, 105, 99, 101, 32, 100, 10, 114, 111, 117, 116, 101, 32, 45, 32, 47, 32, 111, 10] : Bytes) := rfl
  rw [← e, parse_text one_good, Option.bind_some, gcall_val (fun _ => SRight_eq one_good.small), Option.bind_some, one_good.ok]
  rfl

/-! ### ScriptBack -/
theorem back_tail {S : Bytes} (hS : S.length ≤ 10000) : ((script_Parse S).bind fun x6 =>
      bif ((x6.2.1) != (0 : Int)) then
        (intarsialaw25_alive).bind fun x7 =>
        (gcall x7 (intarsiaref25_Like (x6.1) (S_Plan.mk ([] : Bytes) ([] : List S_Route) ([] : List S_Deed)))).bind fun x8 =>
        some (bif x7 then x8 else false)
      else
        (script_Print (x6.1)).bind fun x9 =>
        (intarsialaw25_alive).bind fun x10 =>
        (gcall (bif (bif x10 then ((x9.2) == (0 : Int)) else false) then (x9.1 == S) else false) (script_Right (x6.1))).bind fun x11 =>
        some (bif (bif (bif x10 then ((x9.2) == (0 : Int)) else false) then (x9.1 == S) else false) then x11 else false)) = some true := by
  obtain ⟨⟨q, e, n⟩, hr, hres⟩ := Parse_tot hS
  rw [hr, Option.bind_some]
  rcases hres with ⟨h0, hg, ht⟩ | ⟨h1, hz⟩
  · simp only at h0 hg ht
    subst h0
    show ((script_Print q).bind fun x9 => _) = _
    rw [SPrint_eq hg.small, hg.ok, Option.bind_some, alive_eq, Option.bind_some, gcall_val (fun _ => SRight_eq hg.small), Option.bind_some, hg.ok, ht]
    simp
  · simp only at h1 hz
    subst h1 hz
    show ((intarsialaw25_alive).bind fun x7 => _) = _
    rw [alive_eq, Option.bind_some]
    show ((gcall true (intarsiaref25_Like zeroP zeroP)).bind fun x8 => _) = _
    rw [gcall_tt rfl, like_refl (by decide) (by decide)]; rfl
theorem ScriptBack_true (p : S_Plan) (s : Bytes) : intarsialaw25_ScriptBack p s = some true := by
  unfold intarsialaw25_ScriptBack
  obtain ⟨q, hq, hf⟩ := few_tot p
  have hs := hf.small
  have hS : (s.take 9000).length ≤ 10000 := by simp; omega
  rw [hq, Option.bind_some, slc_cut (K := 9000) s 9000 rfl, Option.bind_some, SPrint_eq hs, Option.bind_some]
  cases hb : planB q with
  | false => exact back_tail hS
  | true =>
    show ((script_Parse (textB q)).bind fun x4 => _) = _
    rw [parse_text ⟨hs, hb⟩, Option.bind_some]
    show ((gcall _ (intarsiaref25_Like q q)).bind fun x5 => _) = _
    rw [gcall_val (fun _ => like_refl (by have := hs.nr; omega) (by have := hs.nd; omega)), Option.bind_some]
    exact back_tail hS
end Go.Proofs.YtkfoahoplndelaaGreatDoor
