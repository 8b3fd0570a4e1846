/-
  Plain laws, part 5: how long a body is: the program's answer is the document's.
-/
import Derived.Test.YtbgldnleackgeaaDoorPl4
namespace Go.Proofs.YtbgldnleackgeaaDoor
open Go Go.Pm
set_option linter.unusedVariables false

theorem valF_bound : ∀ (t : Bytes) (n : Int), 0 ≤ n → n ≤ 1099511627776 → t.all isDig = true → over t n = false → 0 ≤ valF t n ∧ valF t n ≤ 1099511627776
  | [], n, h0, h1, _, _ => ⟨h0, h1⟩
  | x :: t, n, h0, h1, ha, ho => by
    rw [List.all_cons, Bool.and_eq_true] at ha
    have hd := dv_of ha.1
    unfold over at ho
    unfold valF
    cases hm : decide (n * 10 + dv x > 1099511627776) with
    | true => rw [hm] at ho; cases ho
    | false =>
      rw [hm, cond_false] at ho
      exact valF_bound t _ (by omega) (by simpa using hm) ha.2 ho
theorem dec_cases (s : Bytes) : (dec s).2 = 10 ∨ (dec s).2 = 2 ∨ ((dec s).2 = 0 ∧ 0 ≤ (dec s).1 ∧ (dec s).1 ≤ 1099511627776) := by
  unfold dec decR
  cases (s == ([] : Bytes)) with
  | true => exact .inl rfl
  | false =>
    cases ha : s.all isDig with
    | false => exact .inl rfl
    | true =>
      cases ho : over s 0 with
      | true => exact .inr (.inl rfl)
      | false => exact .inr (.inr ⟨rfl, valF_bound s 0 (by simp) (by simp) ha ho⟩)

theorem k22 : ((2 : Int) == 2) = true := rfl
theorem k210 : ((2 : Int) == 10) = false := rfl
theorem k02 : ((0 : Int) == 2) = false := rfl
theorem k010 : ((0 : Int) == 10) = false := rfl
def B (k n : Int) : S_Body := S_Body.mk k n
/-- A size: -1 where it is too long to be told. -/
def sizeOf (s : Bytes) : Int := bif (dec s).2 == 2 then -1 else (dec s).1
def sayStep (c : Option Int) (s : Bytes) : Option Int ⊕ (S_Body × Int) :=
  bif (dec s).2 == 10 then .inr (B 0 0, 32) else match c with
    | none => .inl (some (sizeOf s))
    | some z => bif sizeOf s == z then .inl (some (sizeOf s)) else .inr (B 0 0, 32)
def sayFin (none_ : S_Body) : Option Int → S_Body × Int
  | none => (none_, 0)
  | some z => bif (bif decide (z < 0) then true else decide (z > 20000)) then (B 0 0, 2) else (B 1 z, 0)
def nTE : Bytes := [84, 114, 97, 110, 115, 102, 101, 114, 45, 69, 110, 99, 111, 100, 105, 110, 103]
def nCL : Bytes := [67, 111, 110, 116, 101, 110, 116, 45, 76, 101, 110, 103, 116, 104]
def nTE' : Bytes := [116, 114, 97, 110, 115, 102, 101, 114, 45, 101, 110, 99, 111, 100, 105, 110, 103]
def nCL' : Bytes := [99, 111, 110, 116, 101, 110, 116, 45, 108, 101, 110, 103, 116, 104]
def chunked : Bytes := [99, 104, 117, 110, 107, 101, 100]
theorem vals_low (l : List S_Field) {n m : Bytes} (h : lower n = lower m) : valsN l n = valsN l m := by
  unfold valsN
  have : isN n = isN m := by funext f; unfold isN; rw [h]
  rw [this]
def sayB (minor : Int) (l : List S_Field) (none_ : S_Body) : S_Body × Int :=
  bif decide ((valsN l nTE).length > 0) then
    bif decide ((valsN l nCL).length > 0) || (minor == 0 || !(lower (Lib.join (valsN l nTE) sep) == chunked)) then (B 0 0, 32) else (B 2 0, 0)
  else foldE sayStep (sayFin none_) (valsN l nCL) none

/-- Few fields, none long. -/
structure FRow (l : List S_Field) : Prop where
  len : l.length ≤ 100000
  each : ∀ f, f ∈ l → f.Name.length ≤ 100000 ∧ f.Value.length ≤ 100000
theorem FRow.small {l : List S_Field} (h : FRow l) : ∀ f, f ∈ l → FSmall f := fun f hf => ⟨by have := (h.each f hf).1; unfold maxLen; omega, by have := (h.each f hf).2; unfold maxLen; omega⟩
theorem FRow.vals {l : List S_Field} (h : FRow l) (n : Bytes) : LSmall (valsN l n) := by
  refine ⟨?_, fun s hs => ?_⟩
  · unfold valsN
    rw [List.length_map]
    have := List.length_filter_le (isN n) l
    have := h.len
    omega
  · unfold valsN at hs
    obtain ⟨f, hf, rfl⟩ := List.mem_map.1 hs
    exact (h.each f (List.mem_filter.1 hf).1).2
theorem big {n : Nat} (h : n ≤ 20000000000) : n ≤ maxLen := by unfold maxLen; omega

theorem gtz {α : Type} (l : List α) : decide (((l.length : Nat) : Int) > (0 : Int)) = decide (l.length > 0) := by simp <;> omega

theorem say_eq {minor : Int} {l : List S_Field} {none_ : S_Body} (h : FRow l) : frame_say minor l none_ = some (sayB minor l none_) := by
  unfold frame_say sayB
  have hl : l.length ≤ 1000000 := by have := h.len; omega
  have hte := h.vals nTE
  have hcl := h.vals nCL
  show Option.bind (table_All l nCL) _ = _
  rw [All_eq (n := nCL) hl h.small (big (by decide)), Option.bind_some]
  have hJ : table_Joined l nTE = some (Lib.join (valsN l nTE) sep, decide ((valsN l nTE).length > 0)) := by
    unfold table_Joined
    rw [All_eq hl h.small (big (by decide)), Option.bind_some, Join_eq hte, Option.bind_some, gtz]
  show Option.bind (table_Joined l nTE) _ = _
  rw [hJ, Option.bind_some]
  dsimp only
  cases decide ((valsN l nTE).length > 0) with
  | true =>
    simp only [cond_true]
    rw [gcall_val (fun _ => Same_eq (big (by have := hte.join; omega)) (big (by decide))), Option.bind_some, gtz]
    show _ = some (bif _ || (_ || !(lower (Lib.join (valsN l nTE) sep) == lower [99, 104, 117, 110, 107, 101, 100])) then _ else _)
    cases decide ((valsN l nCL).length > 0) <;> cases (minor == 0) <;> cases (lower (Lib.join (valsN l nTE) sep) == lower [99, 104, 117, 110, 107, 101, 100]) <;> rfl
  | false =>
    simp only [cond_false]
    generalize valsN l nCL = cl at *
    let lf : Option Int → Bool := fun c => match c with | none => false | some z => bif decide (z < 0) then true else decide (z > 20000)
    let ob : Option Int → S_Body := fun c => match c with | none => none_ | some z => S_Body.mk 1 z
    refine loop_list cl (fun i c => (lf c, (i : Int), ob c)) sayStep (sayFin none_) (fun i c => (i = 0 ∧ c = none) ∨ (0 < i ∧ ∃ z, c = some z)) (fun i c x hx hi => ?_) (fun c hi => ?_) none (.inl ⟨rfl, rfl⟩)
    · have hlt := lt_of_get hx
      have hxl := hcl.each x (List.mem_of_getElem? hx)
      have hb : frame_say_b1 cl (lf c, (i : Int), ob c) = some (bif (dec x).2 == 10 then .inr (B 0 0, 32) else bif (bif decide ((i : Int) > 0) then !((1 == (ob c).Kind) && ((sizeOf x == (ob c).Size) && true)) else false) then .inr (B 0 0, 32) else .inl (lf (some (sizeOf x)), ((i + 1 : Nat) : Int), ob (some (sizeOf x)))) := by
        unfold frame_say_b1
        dsimp only
        rw [dlt_true hlt, cond_true, idx_at hx, Option.bind_some, ReadDec_eq (big (by omega)), Option.bind_some, wrap_inc hlt (big (by have := hcl.len; omega))]
        unfold sizeOf
        rcases dec_cases x with hc | hc | ⟨hc, hc1, hc2⟩
        · rw [hc]; rfl
        · rw [hc]
          simp only [k22, k210, cond_true, cond_false]
          cases (bif decide ((i : Int) > 0) then (!((1 == (ob c).Kind) && (((-1 : Int) == (ob c).Size) && true))) else false) <;> rfl
        · rw [hc, wrap_i64 (by omega) (by omega)]
          simp only [k02, k010, cond_true, cond_false]
          cases (bif decide ((i : Int) > 0) then (!((1 == (ob c).Kind) && (((dec x).1 == (ob c).Size) && true))) else false) <;> rfl
      rw [hb]
      unfold sayStep
      cases (dec x).2 == 10 with
      | true => exact .inr ⟨_, rfl, rfl⟩
      | false =>
        rcases hi with ⟨rfl, rfl⟩ | ⟨hi, z, rfl⟩
        · exact .inl ⟨_, rfl, rfl, .inr ⟨by omega, _, rfl⟩⟩
        · rw [show decide ((i : Int) > 0) = true by simp; omega]
          dsimp only
          show (∃ b', (bif false then _ else bif sizeOf x == z then _ else _) = _ ∧ some (bif false then _ else bif (bif true then !((1 == (1 : Int)) && ((sizeOf x == z) && true)) else false) then _ else _) = _ ∧ _) ∨ _
          cases sizeOf x == z with
          | true => exact .inl ⟨_, rfl, rfl, .inr ⟨by omega, _, rfl⟩⟩
          | false => exact .inr ⟨_, rfl, rfl⟩
    · unfold frame_say_b1
      dsimp only
      rw [dlt_self, cond_false]
      cases c with
      | none => rfl
      | some z =>
        show (bif (bif decide (z < 0) then true else decide (z > 20000)) then _ else _) = some (Sum.inr (bif (bif decide (z < 0) then true else decide (z > 20000)) then _ else _))
        cases (bif decide (z < 0) then true else decide (z > 20000)) <;> rfl

def saySpec (minor : Int) (l : List S_Field) : S_Body × Int := bif decide ((valsN l nTE).length > 0) || decide ((valsN l nCL).length > 0) then sayB minor l (B 0 0) else (B (-1) 0, 0)
theorem refSay_eq {minor : Int} {l : List S_Field} (h : FRow l) : intarsiaref09_Say minor l = some (saySpec minor l) := by
  unfold intarsiaref09_Say saySpec sayB
  have hl : l.length ≤ 1000000 := by have := h.len; omega
  have hte := h.vals nTE
  have hcl := h.vals nCL
  have e1 : valsN l nTE' = valsN l nTE := vals_low l (by kernel_rfl)
  have e2 : valsN l nCL' = valsN l nCL := vals_low l (by kernel_rfl)
  show Option.bind (intarsiaref04_All l nTE') (fun x1 => Option.bind (intarsiaref04_All l nCL') _) = _
  rw [refAll_eq (n := nTE') hl h.small (big (by decide)), Option.bind_some, refAll_eq (n := nCL') hl h.small (big (by decide)), Option.bind_some, e1, e2, gtz, gtz]
  cases decide ((valsN l nTE).length > 0) with
  | true =>
    simp only [cond_true, Bool.true_or]
    rw [gcall_val (fun _ => refJoined_eq hte), Option.bind_some]
    cases hg : (!(bif decide ((valsN l nCL).length > 0) then true else (minor == 0))) with
    | false =>
      rw [gcall_ff rfl, Option.bind_some]
      revert hg
      cases decide ((valsN l nCL).length > 0) <;> cases (minor == 0) <;> intro hg <;> first | rfl | (cases hg)
    | true =>
      rw [gcall_tt rfl, cond_true, refLower_eq (big (by have := hte.join; omega)), Option.bind_some]
      revert hg
      show _ → (bif (bif _ then true else !(lower (Lib.join (valsN l nTE) sep) == chunked)) then _ else _) = _
      cases decide ((valsN l nCL).length > 0) <;> cases (minor == 0) <;> cases (lower (Lib.join (valsN l nTE) sep) == chunked) <;> intro hg <;> first | rfl | (cases hg)
  | false =>
    simp only [cond_false, Bool.false_or]
    generalize valsN l nCL = cl at *
    have hz : ((cl.length : Int) == (0 : Int)) = !decide (cl.length > 0) := by
      rw [Bool.eq_iff_iff]; simp <;> omega
    rw [hz]
    cases hd : decide (cl.length > 0) with
    | false => rfl
    | true =>
      simp only [Bool.not_true, cond_false, cond_true]
      let ff : Option Int → Int := fun c => match c with | none => 0 | some z => bif z == -1 then 18446744073709551615 else z
      refine loop_list cl (fun i c => (ff c, (i : Int))) sayStep (sayFin (B 0 0)) (fun i c => (i = 0 ∧ c = none) ∨ (0 < i ∧ ∃ z, c = some z ∧ (z = -1 ∨ (0 ≤ z ∧ z ≤ 1099511627776)))) (fun i c x hx hi => ?_) (fun c hi => ?_) none (.inl ⟨rfl, rfl⟩)
      · have hlt := lt_of_get hx
        have hxl := hcl.each x (List.mem_of_getElem? hx)
        have hsz : (dec x).2 = 10 ∨ sizeOf x = -1 ∨ (0 ≤ sizeOf x ∧ sizeOf x ≤ 1099511627776) := by
          unfold sizeOf
          rcases dec_cases x with hc | hc | ⟨hc, hc1, hc2⟩
          · exact .inl hc
          · rw [hc]; exact .inr (.inl rfl)
          · rw [hc]; exact .inr (.inr ⟨hc1, hc2⟩)
        have hb : intarsiaref09_Say_b1 cl (ff c, (i : Int)) = some (bif (dec x).2 == 10 then .inr (B 0 0, 32) else bif (bif decide ((i : Int) > 0) then (ff (some (sizeOf x)) != ff c) else false) then .inr (B 0 0, 32) else .inl (ff (some (sizeOf x)), ((i + 1 : Nat) : Int))) := by
          unfold intarsiaref09_Say_b1
          dsimp only
          rw [dlt_true hlt, cond_true, idx_at hx, Option.bind_some, Read_eq (big (by omega)), Option.bind_some, wrap_inc hlt (big (by have := hcl.len; omega))]
          unfold sizeOf
          rcases dec_cases x with hc | hc | ⟨hc, hc1, hc2⟩
          · rw [hc]; rfl
          · rw [hc]
            simp only [k22, k210, cond_true, cond_false]
            show _ = some (bif (bif decide ((i : Int) > 0) then ((18446744073709551615 : Int) != ff c) else false) then _ else _)
            cases (bif decide ((i : Int) > 0) then ((18446744073709551615 : Int) != ff c) else false) <;> rfl
          · have hne : ((dec x).1 == (-1 : Int)) = false := by simp; omega
            have hff : ff (some (dec x).1) = (dec x).1 := by show (bif (dec x).1 == -1 then _ else _) = _; rw [hne]; rfl
            rw [hc]
            simp only [k02, k010, cond_true, cond_false]
            rw [hff]
            cases (bif decide ((i : Int) > 0) then ((dec x).1 != ff c) else false) <;> rfl
        rw [hb]
        unfold sayStep
        cases h10 : (dec x).2 == 10 with
        | true => exact .inr ⟨_, rfl, rfl⟩
        | false =>
          have hsz' : sizeOf x = -1 ∨ (0 ≤ sizeOf x ∧ sizeOf x ≤ 1099511627776) := hsz.resolve_left (by simpa using h10)
          rcases hi with ⟨rfl, rfl⟩ | ⟨hi, z, rfl, hzr⟩
          · exact .inl ⟨_, rfl, rfl, .inr ⟨by omega, _, rfl, hsz'⟩⟩
          · rw [show decide ((i : Int) > 0) = true by simp; omega]
            have hinj : (ff (some (sizeOf x)) != ff (some z)) = !(sizeOf x == z) := by
              show (!((bif sizeOf x == -1 then (18446744073709551615 : Int) else sizeOf x) == (bif z == -1 then (18446744073709551615 : Int) else z))) = _
              congr 1
              rw [Bool.eq_iff_iff, beq_iff_eq, beq_iff_eq]
              rcases hsz' with h1 | h1 <;> rcases hzr with h2 | h2
              · rw [h1, h2]; simp
              · rw [h1, show (z == -1) = false by simp; omega]; simp; omega
              · rw [h2, show (sizeOf x == -1) = false by simp; omega]; simp; omega
              · rw [show (sizeOf x == -1) = false by simp; omega, show (z == -1) = false by simp; omega]; simp
            rw [hinj]
            dsimp only
            cases hq : sizeOf x == z with
            | true => exact .inl ⟨_, rfl, rfl, .inr ⟨by omega, _, rfl, hsz'⟩⟩
            | false => exact .inr ⟨_, rfl, rfl⟩
      · unfold intarsiaref09_Say_b1
        dsimp only
        rw [dlt_self, cond_false]
        rcases hi with ⟨hi, _⟩ | ⟨hi, z, rfl, hzr⟩
        · rw [hi] at hd; cases hd
        · show (bif decide ((bif z == -1 then (18446744073709551615 : Int) else z) > 20000) then _ else some (Sum.inr (S_Body.mk 1 (IntKind.i64.wrap (bif z == -1 then (18446744073709551615 : Int) else z)), _))) = some (Sum.inr (bif (bif decide (z < 0) then true else decide (z > 20000)) then _ else _))
          rcases hzr with rfl | hzr
          · rfl
          · rw [show (z == -1) = false by simp; omega, cond_false, wrap_i64 (by omega) (by omega), show decide (z < 0) = false by simp; omega]
            simp only [cond_false]
            cases decide (z > 20000) <;> rfl

theorem say_kind_some (none_ : S_Body) : ∀ (l : List Bytes) (z : Int), (foldE sayStep (sayFin none_) l (some z)).1.Kind ≥ 0 ∧ foldE sayStep (sayFin none_) l (some z) = foldE sayStep (sayFin (B 0 0)) l (some z)
  | [], z => by
    refine ⟨?_, rfl⟩
    show (sayFin none_ (some z)).1.Kind ≥ 0
    show (bif (bif decide (z < 0) then true else decide (z > 20000)) then ((B 0 0, 2) : S_Body × Int) else (B 1 z, 0)).1.Kind ≥ 0
    cases (bif decide (z < 0) then true else decide (z > 20000)) with
    | true => exact Int.le_refl 0
    | false => show (0 : Int) ≤ 1; decide
  | x :: l, z => by
    rw [foldE_cons, foldE_cons]
    have hs : sayStep (some z) x = (bif (dec x).2 == 10 then .inr (B 0 0, 32) else bif sizeOf x == z then .inl (some (sizeOf x)) else .inr (B 0 0, 32)) := rfl
    rw [hs]
    cases (dec x).2 == 10 with
    | true => exact ⟨Int.le_refl 0, rfl⟩
    | false =>
      cases sizeOf x == z with
      | true => exact say_kind_some none_ l _
      | false => exact ⟨Int.le_refl 0, rfl⟩
theorem say_kind (none_ : S_Body) (x : Bytes) (l : List Bytes) : (foldE sayStep (sayFin none_) (x :: l) none).1.Kind ≥ 0 ∧ foldE sayStep (sayFin none_) (x :: l) none = foldE sayStep (sayFin (B 0 0)) (x :: l) none := by
  rw [foldE_cons, foldE_cons]
  have hs : sayStep none x = (bif (dec x).2 == 10 then .inr (B 0 0, 32) else .inl (some (sizeOf x))) := rfl
  rw [hs]
  cases (dec x).2 == 10 with
  | true => exact ⟨Int.le_refl 0, rfl⟩
  | false => exact say_kind_some none_ l _
/-- What the document's answer says, where it says something, is the program's. -/
theorem spec_say (minor : Int) (l : List S_Field) (none_ : S_Body) : (bif decide ((saySpec minor l).1.Kind < 0) then (none_, (saySpec minor l).2) else saySpec minor l) = sayB minor l none_ := by
  unfold saySpec sayB
  cases decide ((valsN l nTE).length > 0) with
  | true =>
    simp only [Bool.true_or, cond_true]
    cases (decide ((valsN l nCL).length > 0) || (minor == 0 || !(lower (Lib.join (valsN l nTE) sep) == chunked))) <;> rfl
  | false =>
    simp only [Bool.false_or, cond_false]
    cases valsN l nCL with
    | nil => rfl
    | cons x r =>
      rw [show decide ((x :: r).length > 0) = true by simp, cond_true]
      obtain ⟨h1, h2⟩ := say_kind (B 0 0) x r
      rw [show decide ((foldE sayStep (sayFin (B 0 0)) (x :: r) none).1.Kind < 0) = false by simp; omega, cond_false]
      exact (say_kind none_ x r).2.symm

def reqB (s : S_Start) (l : List S_Field) : S_Body × Int := bif (!startB s) || (s.Code != 0 || !rightB l) then (B 0 0, 1) else sayB s.Minor l (B 0 0)
def ansB (s : S_Start) (l : List S_Field) (m : Bytes) : S_Body × Int :=
  bif (!startB s) || (s.Code == 0 || !rightB l) then (B 0 0, 1) else
  bif (decide (s.Code < 200) || (s.Code == 204 || (s.Code == 304 || m == ([72, 69, 65, 68] : Bytes)))) then (B 0 0, 0) else sayB s.Minor l (B 3 0)
theorem Request_eq {s : S_Start} {l : List S_Field} (hs : SSmall s) (h : FRow l) : frame_Request s l = some (reqB s l) := by
  unfold frame_Request reqB
  rw [sRight_eq hs, Option.bind_some, gcall_val (fun _ => Right_eq (big (by have := h.len; omega)) h.small), Option.bind_some, say_eq h, Option.bind_some]
  cases startB s <;> cases (s.Code != 0) <;> cases rightB l <;> rfl
theorem refRequest_eq {s : S_Start} {l : List S_Field} (hs : SSmall s) (h : FRow l) : intarsiaref09_Request s l = some (reqB s l) := by
  unfold intarsiaref09_Request reqB
  rw [refSRight_eq hs, Option.bind_some, gcall_val (fun _ => refRight_eq (big (by have := h.len; omega)) h.small), Option.bind_some, refSay_eq h, Option.bind_some, ← spec_say]
  cases startB s <;> cases (s.Code != 0) <;> cases rightB l <;> first | rfl | (cases decide ((saySpec s.Minor l).1.Kind < 0) <;> rfl)
theorem Answer_eq {s : S_Start} {l : List S_Field} {m : Bytes} (hs : SSmall s) (h : FRow l) : frame_Answer s l m = some (ansB s l m) := by
  unfold frame_Answer ansB
  rw [sRight_eq hs, Option.bind_some, gcall_val (fun _ => Right_eq (big (by have := h.len; omega)) h.small), Option.bind_some, say_eq h, Option.bind_some]
  cases startB s <;> cases (s.Code == 0) <;> cases rightB l <;> cases decide (s.Code < 200) <;> cases (s.Code == 204) <;> cases (s.Code == 304) <;> cases (m == ([72, 69, 65, 68] : Bytes)) <;> rfl
theorem refAnswer_eq {s : S_Start} {l : List S_Field} {m : Bytes} (hs : SSmall s) (h : FRow l) : intarsiaref09_Answer s l m = some (ansB s l m) := by
  unfold intarsiaref09_Answer ansB
  rw [refSRight_eq hs, Option.bind_some, gcall_val (fun _ => refRight_eq (big (by have := h.len; omega)) h.small), Option.bind_some, refSay_eq h, Option.bind_some, ← spec_say]
  cases startB s <;> cases (s.Code == 0) <;> cases rightB l <;> cases decide (s.Code < 200) <;> cases (s.Code == 204) <;> cases (s.Code == 304) <;> cases (m == ([72, 69, 65, 68] : Bytes)) <;> first | rfl | (cases decide ((saySpec s.Minor l).1.Kind < 0) <;> rfl)
end Go.Proofs.YtbgldnleackgeaaDoor
