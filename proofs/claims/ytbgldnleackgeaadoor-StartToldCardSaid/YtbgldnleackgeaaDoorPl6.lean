/-
  Plain laws, part 6: the statements FrameSays and FrameNone, as plain functions: true at every input.
-/
import Derived.Test.YtbgldnleackgeaaDoorPl5
namespace Go.Proofs.YtbgldnleackgeaaDoor
open Go Go.Pm
set_option linter.unusedVariables false

theorem slc_cut {α : Type} (l : List α) (k : Nat) {K : Int} (hK : K = (k : Int)) : slc l 0 (imin (l.length : Int) K) = some (l.take k) := by
  subst hK
  unfold slc imin
  by_cases h : (k : Int) < (l.length : Int)
  · rw [if_pos h, chk_pos (by omega)]; simp
  · rw [if_neg h, chk_pos (by omega)]
    simp only [Int.toNat_zero, List.drop_zero, Int.toNat_natCast, Nat.sub_zero]
    rw [List.take_length, List.take_of_length_le (by omega)]
def cutS (s : S_Start) : S_Start := S_Start.mk (s.Method.take 40) (s.Target.take 520) s.Code (s.Reason.take 120) s.Minor
def cutF (f : S_Field) : S_Field := S_Field.mk (f.Name.take 60) (f.Value.take 1010)
def cutL (l : List S_Field) : List S_Field := (l.take 45).map cutF
theorem small_eq (s : S_Start) : intarsialaw09_small s = some (cutS s) := by
  unfold intarsialaw09_small
  rw [slc_cut s.Method 40 (K := 40) rfl, Option.bind_some, slc_cut s.Target 520 (K := 520) rfl, Option.bind_some, slc_cut s.Reason 120 (K := 120) rfl]; rfl
theorem cutS_small (s : S_Start) : SSmall (cutS s) := ⟨by unfold cutS maxLen; simp; omega, by unfold cutS maxLen; simp; omega, by unfold cutS maxLen; simp; omega⟩
theorem cutL_row (l : List S_Field) : FRow (cutL l) := by
  refine ⟨by unfold cutL; simp; omega, fun f hf => ?_⟩
  unfold cutL at hf
  obtain ⟨g, _, rfl⟩ := List.mem_map.1 hf
  unfold cutF
  simp; omega
theorem few_eq (l : List S_Field) : intarsialaw09_few l = some (cutL l) := by
  unfold intarsialaw09_few
  rw [slc_cut l 45 (K := 45) rfl, Option.bind_some]
  have hm : (l.take 45).length ≤ 45 := by simp; omega
  generalize hx : l.take 45 = m at *
  rw [chk_pos ⟨big (by omega), by omega⟩]
  have key : loopO (intarsialaw09_few_b1 m) ((0 : Int), m) = some (m.map cutF) := by
    have h := loopO_rec (body := intarsialaw09_few_b1 m) (fun _ => m.map cutF) (fun x => m.length - x.1.toNat) (fun x => ∃ i : Nat, i ≤ m.length ∧ x = ((i : Int), (m.take i).map cutF ++ m.drop i)) ?_ ((0 : Int), m) ⟨0, Nat.zero_le _, by simp⟩
    · exact h
    · rintro _ ⟨i, hi, rfl⟩
      rcases Nat.lt_or_ge i m.length with hlt | hge
      · left
        have hl : ((m.take i).map cutF).length = i := by simp; omega
        have hget : ((m.take i).map cutF ++ m.drop i)[i]? = some m[i] := by
          rw [List.getElem?_append_right (by omega), hl]
          simp
        have hll : ((m.take i).map cutF ++ m.drop i).length = m.length := by simp; omega
        refine ⟨(((i + 1 : Nat) : Int), (m.take (i + 1)).map cutF ++ m.drop (i + 1)), ?_, ⟨i + 1, hlt, rfl⟩, by simp; omega, rfl⟩
        have hnew : ((m.take i).map cutF ++ m.drop i).set i (cutF m[i]) = (m.take (i + 1)).map cutF ++ m.drop (i + 1) := by
          rw [List.take_succ_eq_append_getElem hlt, List.drop_eq_getElem_cons hlt]
          rw [List.set_append_right _ _ (by omega), hl, Nat.sub_self, List.set_cons_zero, List.map_append, List.append_assoc]; rfl
        unfold intarsialaw09_few_b1
        dsimp only
        rw [dlt_true hlt, cond_true, chk_pos (by omega), idx_at hget, Option.bind_some, slc_cut m[i].Name 60 (K := 60) rfl, Option.bind_some, slc_cut m[i].Value 1010 (K := 1010) rfl, Option.bind_some, chk_pos (by omega), seti_at (by omega), Option.bind_some, wrap_inc hlt (big (by omega))]
        show some (Sum.inl (_, List.set _ i (cutF m[i]))) = _
        rw [hnew]
      · right
        have : i = m.length := by omega
        subst this
        unfold intarsialaw09_few_b1
        dsimp only
        rw [dlt_self, cond_false]
        simp
  rw [key, Option.bind_some, chk_pos (by simp), List.take_of_length_le (by simp)]
  unfold cutL
  rw [hx]
theorem alive_eq : intarsialaw09_alive = some true := by
  unfold intarsialaw09_alive
  rw [Request_eq ⟨big (by decide), big (by decide), big (by decide)⟩ ⟨by decide, by decide⟩, Option.bind_some]
  kernel_rfl

theorem FrameSays_true (s : S_Start) (l : List S_Field) (m : Bytes) : intarsialaw09_FrameSays s l m = some true := by
  unfold intarsialaw09_FrameSays
  rw [small_eq, Option.bind_some, few_eq, Option.bind_some, slc_cut m 20 (K := 20) rfl, Option.bind_some]
  rw [Request_eq (cutS_small s) (cutL_row l), Option.bind_some, refRequest_eq (cutS_small s) (cutL_row l), Option.bind_some, Answer_eq (cutS_small s) (cutL_row l), Option.bind_some, refAnswer_eq (cutS_small s) (cutL_row l), Option.bind_some, alive_eq, Option.bind_some]
  simp

/-! ### FrameNone -/
def addB (l : List S_Field) (f : S_Field) : List S_Field × Int := bif (!rightB l) || !mayB f then ([], 1) else bif l.length == 40 then ([], 4) else (l ++ [f], 0)
theorem refAdd_eq {l : List S_Field} {f : S_Field} (h : FRow l) (hf : FSmall f) : intarsiaref04_Add l f = some (addB l f) := by
  unfold intarsiaref04_Add addB
  have hl := h.len
  rw [refRight_eq (big (by omega)) h.small, Option.bind_some, gcall_val (fun _ => refMay_eq hf), Option.bind_some, app_ok (by simp; omega) (by omega), Option.bind_some, app_ok (by simp; omega) (by omega), Option.bind_some]
  have e : ((l.length : Int) == (40 : Int)) = (l.length == 40) := by rw [Bool.eq_iff_iff, beq_iff_eq, beq_iff_eq]; omega
  rw [e]
  cases rightB l <;> cases mayB f <;> cases (l.length == 40) <;> rfl
theorem sayB_same {minor : Int} {l m : List S_Field} {n : S_Body} (h1 : valsN l nTE = valsN m nTE) (h2 : valsN l nCL = valsN m nCL) : sayB minor l n = sayB minor m n := by unfold sayB; rw [h1, h2]
theorem ansB_same {s : S_Start} {l m : List S_Field} {x : Bytes} (h0 : rightB l = rightB m) (h1 : valsN l nTE = valsN m nTE) (h2 : valsN l nCL = valsN m nCL) : ansB s l x = ansB s m x := by unfold ansB; rw [h0, sayB_same h1 h2]
def rest (l : List S_Field) : List S_Field := (l.filter fun f => !isN nCL' f).filter fun f => !isN nTE' f
theorem rest_snoc (l : List S_Field) (f : S_Field) : rest (l ++ [f]) = rest l ++ (bif isN nCL' f || isN nTE' f then [] else [f]) := by
  unfold rest
  rw [List.filter_append, List.filter_append]
  cases h1 : isN nCL' f <;> cases h2 : isN nTE' f <;> simp [h1, h2]
theorem rest_le (l : List S_Field) : (rest l).length ≤ l.length := by
  unfold rest
  exact Nat.le_trans (List.length_filter_le ..) (List.length_filter_le ..)
theorem vals_snoc (l : List S_Field) (f : S_Field) (n : Bytes) (h : isN n f = false) : valsN (l ++ [f]) n = valsN l n := by
  unfold valsN
  rw [List.filter_append]
  simp [h]
theorem FRow.filter {l : List S_Field} (h : FRow l) (p : S_Field → Bool) : FRow (l.filter p) := ⟨by have := List.length_filter_le p l; have := h.len; omega, fun f hf => h.each f (List.mem_filter.1 hf).1⟩
theorem refRem2 {l : List S_Field} (h : FRow l) : (intarsiaref04_Remove l [99, 111, 110, 116, 101, 110, 116, 45, 108, 101, 110, 103, 116, 104]) = some (l.filter fun f => !isN nCL' f) ∧ (intarsiaref04_Remove (l.filter fun f => !isN nCL' f) [116, 114, 97, 110, 115, 102, 101, 114, 45, 101, 110, 99, 111, 100, 105, 110, 103]) = some (rest l) := by
  have hl := h.len
  refine ⟨refRemove_eq (by omega) h.small (big (by decide)), ?_⟩
  have h2 := h.filter fun f => !isN nCL' f
  have hl2 := h2.len
  exact refRemove_eq (by omega) h2.small (big (by decide))
theorem addB_row {l : List S_Field} {f : S_Field} (h : FRow l) (h1 : l.length ≤ 50000) (hf : f.Name.length ≤ 100000 ∧ f.Value.length ≤ 100000) : FRow (addB l f).1 := by
  unfold addB
  cases ((!rightB l) || !mayB f) with
  | true => exact ⟨by simp, by simp⟩
  | false =>
    cases (l.length == 40) with
    | true => exact ⟨by simp, by simp⟩
    | false =>
      refine ⟨by simp; omega, fun g hg => ?_⟩
      rcases List.mem_append.1 hg with hg | hg
      · exact h.each g hg
      · rw [List.mem_singleton] at hg; subst hg; exact hf

theorem isN_low {n m : Bytes} (h : lower n = lower m) : isN n = isN m := by funext f; unfold isN; rw [h]

theorem FrameNone_true (s : S_Start) (l : List S_Field) (name value : Bytes) : intarsialaw09_FrameNone s l name value = some true := by
  unfold intarsialaw09_FrameNone
  have hs := cutS_small s
  have hl := cutL_row l
  have hlen : (cutL l).length ≤ 45 := by unfold cutL; simp; omega
  rw [small_eq, Option.bind_some, few_eq, Option.bind_some]
  generalize cutS s = s at *
  generalize cutL l = l at *
  rw [Answer_eq hs hl, Option.bind_some, Answer_eq hs hl, Option.bind_some, refSRight_eq hs, Option.bind_some, gcall_val (fun _ => refRight_eq (big (by omega)) hl.small), Option.bind_some, alive_eq]
  have hf1 : (name.take 20).length ≤ 20 := by simp; omega
  have hf2 : (value.take 20).length ≤ 20 := by simp; omega
  have hfs : FSmall (S_Field.mk (name.take 20) (value.take 20)) := ⟨big (by show (name.take 20).length ≤ _; omega), big (by show (value.take 20).length ≤ _; omega)⟩
  have hcut : ∀ (b : Bytes), slc b 0 (imin (b.length : Int) (20 : Int)) = some (b.take 20) := fun b => slc_cut b 20 (K := 20) rfl
  cases hr : (bif (!startB s) then true else (s.Code == (0 : Int))) || (!rightB l) with
  | true =>
    -- what may not be
    have h1 : ∀ x, ansB s l x = (B 0 0, 1) := fun x => by
      unfold ansB
      revert hr
      cases startB s <;> cases (s.Code == 0) <;> cases rightB l <;> intro hr <;> first | rfl | (simp at hr)
    rw [h1, h1]
    revert hr
    cases startB s <;> cases (s.Code == 0) <;> cases rightB l <;> intro hr <;> first | rfl | (simp at hr)
  | false =>
    have hst : startB s = true := by revert hr; cases startB s <;> cases (s.Code == 0) <;> cases rightB l <;> simp
    have hc0 : (s.Code == 0) = false := by revert hr; cases startB s <;> cases (s.Code == 0) <;> cases rightB l <;> simp
    have hrt : rightB l = true := by revert hr; cases startB s <;> cases (s.Code == 0) <;> cases rightB l <;> simp
    have hhead : ansB s l [72, 69, 65, 68] = (B 0 0, 0) := by
      unfold ansB
      rw [hst, hc0, hrt]
      cases decide (s.Code < 200) <;> cases (s.Code == 204) <;> cases (s.Code == 304) <;> rfl
    have hspec : (bif (bif (s.Code == 204) then true else (s.Code == 304)) then (!((((ansB s l [71, 69, 84]).1.Kind) == (0 : Int)) && ((((ansB s l [71, 69, 84]).1.Size) == (0 : Int)) && true))) else false) = false := by
      have : (bif (s.Code == 204) then true else (s.Code == 304)) = true → ansB s l [71, 69, 84] = (B 0 0, 0) := by
        intro h
        unfold ansB
        rw [hst, hc0, hrt]
        revert h
        cases decide (s.Code < 200) <;> cases (s.Code == 204) <;> cases (s.Code == 304) <;> intro h <;> first | rfl | (cases h)
      cases h : (bif (s.Code == 204) then true else (s.Code == 304)) with
      | false => rfl
      | true => rw [this h]; rfl
    rw [hhead, hst, hc0, hrt]
    show (bif (bif (bif (!true) then true else false) then true else !(bif (!(bif (!true) then true else false)) then true else default)) then _ else _) = _
    rw [show (bif (bif (!true) then true else false) then true else !(bif (!(bif (!true) then true else false)) then true else (default : Bool))) = false from rfl, cond_false]
    rw [gcall_val (fun _ => rfl), Option.bind_some]
    have hgo : (bif (bif (bif (((B 0 0, (0 : Int)) : S_Body × Int).2 != (0 : Int)) then true else (!(((((B 0 0, (0 : Int)) : S_Body × Int).1.Kind) == (0 : Int)) && (((((B 0 0, (0 : Int)) : S_Body × Int).1.Size) == (0 : Int)) && true)))) then true else
        (bif (bif (s.Code == (204 : Int)) then true else (s.Code == (304 : Int))) then (!((((ansB s l [71, 69, 84]).1.Kind) == (((B 0 0, (0 : Int)) : S_Body × Int).1.Kind)) && ((((ansB s l [71, 69, 84]).1.Size) == (((B 0 0, (0 : Int)) : S_Body × Int).1.Size)) && true))) else false)) then true else false) = false := by
      show (bif (bif false then true else (bif (bif (s.Code == (204 : Int)) then true else (s.Code == (304 : Int))) then (!((((ansB s l [71, 69, 84]).1.Kind) == (0 : Int)) && ((((ansB s l [71, 69, 84]).1.Size) == (0 : Int)) && true))) else false)) then true else false) = false
      rw [hspec]; rfl
    have hgo' : (bif (bif (((B 0 0, (0 : Int)) : S_Body × Int).2 != (0 : Int)) then true else (!(((((B 0 0, (0 : Int)) : S_Body × Int).1.Kind) == (0 : Int)) && (((((B 0 0, (0 : Int)) : S_Body × Int).1.Size) == (0 : Int)) && true)))) then true else
        (bif (bif (s.Code == (204 : Int)) then true else (s.Code == (304 : Int))) then (!((((ansB s l [71, 69, 84]).1.Kind) == (((B 0 0, (0 : Int)) : S_Body × Int).1.Kind)) && ((((ansB s l [71, 69, 84]).1.Size) == (((B 0 0, (0 : Int)) : S_Body × Int).1.Size)) && true))) else false)) = false := by
      show (bif false then true else (bif (bif (s.Code == (204 : Int)) then true else (s.Code == (304 : Int))) then (!((((ansB s l [71, 69, 84]).1.Kind) == (0 : Int)) && ((((ansB s l [71, 69, 84]).1.Size) == (0 : Int)) && true))) else false)) = false
      rw [hspec]; rfl
    rw [hgo']
    show (bif (bif false then true else (!(bif (!false) then true else default))) then _ else _) = _
    rw [show (bif false then true else (!(bif (!false) then true else (default : Bool)))) = false from rfl, cond_false]
    rw [hcut, Option.bind_some, hcut, Option.bind_some, refAdd_eq hl hfs, Option.bind_some]
    have hm := addB_row (f := S_Field.mk (name.take 20) (value.take 20)) hl (by omega) ⟨by show (name.take 20).length ≤ _; omega, by show (value.take 20).length ≤ _; omega⟩
    generalize S_Field.mk (name.take 20) (value.take 20) = f at *
    rw [(refRem2 hm).1, Option.bind_some, (refRem2 hm).2, Option.bind_some]
    rw [gcall_val (fun _ => (refRem2 hl).1), Option.bind_some]
    cases hg : ((addB l f).2 != (0 : Int)) with
    | true =>
      show Option.bind (gcall false _) _ = _
      rw [gcall_ff rfl, Option.bind_some]; rfl
    | false =>
      show Option.bind (gcall true (intarsiaref04_Remove (l.filter fun f => !isN nCL' f) _)) _ = _
      rw [gcall_tt rfl, (refRem2 hl).2, Option.bind_some, Answer_eq hs hm, Option.bind_some, cond_false]
      -- it was put behind
      have hadd : addB l f = (l ++ [f], 0) ∧ rightB (l ++ [f]) = true := by
        unfold addB at hg ⊢
        rw [hrt] at hg ⊢
        cases hmay : mayB f with
        | false => rw [hmay] at hg; cases hg
        | true =>
          rw [hmay] at hg
          cases h40 : (l.length == 40) with
          | true => rw [h40] at hg; cases hg
          | false =>
            refine ⟨rfl, ?_⟩
            unfold rightB at hrt ⊢
            rw [Bool.and_eq_true] at hrt
            have h1 : l.length ≤ 40 := by simpa using hrt.1
            have h2 : ¬ l.length = 40 := by simpa using h40
            rw [List.all_append, hrt.2, List.length_append]
            simp [hmay]; omega
      rw [hadd.1]
      dsimp only
      have hra := rest_le l
      have hrm := rest_le (l ++ [f])
      have hlm : (l ++ [f]).length = l.length + 1 := by simp
      rw [wrap_i64 (by omega) (by omega), wrap_i64 (by omega) (by omega)]
      cases hb : (isN nCL' f || isN nTE' f) with
      | true =>
        have : (rest (l ++ [f])).length = (rest l).length := by rw [rest_snoc, hb]; simp
        rw [this, hlm, show ((((l.length + 1 : Nat) : Int) - ((rest l).length : Int)) != ((l.length : Int) - ((rest l).length : Int))) = true by simp; omega]
        rfl
      | false =>
        have hcl : isN nCL f = false := by
          rw [isN_low (show lower nCL = lower nCL' by kernel_rfl)]
          revert hb; cases isN nCL' f <;> simp
        have hte : isN nTE f = false := by
          rw [isN_low (show lower nTE = lower nTE' by kernel_rfl)]
          revert hb; cases isN nTE' f <;> simp
        rw [ansB_same (m := l) (by rw [hadd.2, hrt]) (vals_snoc l f nTE hte) (vals_snoc l f nCL hcl)]
        cases ((((l ++ [f]).length : Int) - ((rest (l ++ [f])).length : Int)) != ((l.length : Int) - ((rest l).length : Int))) with
        | true => rfl
        | false => simp
end Go.Proofs.YtbgldnleackgeaaDoor
