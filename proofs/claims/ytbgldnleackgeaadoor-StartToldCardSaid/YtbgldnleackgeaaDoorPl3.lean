/-
  Plain laws, part 3: first lines and fields that may be.
-/
import Derived.Test.YtbgldnleackgeaaDoorPl2
namespace Go.Proofs.YtbgldnleackgeaaDoor
open Go Go.Pm
set_option linter.unusedVariables false

/-- A search for a byte that a test holds of, told as a truth. -/
theorem any_loop {l : Bytes} (hl : l.length ≤ maxLen) {ρ : Type} {body : Int → Option (Int ⊕ ρ)} (p : UInt8 → Bool) (yes no : ρ) (hs : ∀ (i : Nat) (x : UInt8), l[i]? = some x → body (i : Int) = some (bif p x then .inr yes else .inl (((i + 1 : Nat)) : Int)))
    (hf : body (l.length : Int) = some (.inr no)) : loopO body (0 : Int) = some (bif l.any p then yes else no) := by
  have hfold : ∀ (l : Bytes), foldE (β := Unit) (fun _ b => bif p b then .inr yes else .inl ()) (fun _ => no) l () = bif l.any p then yes else no := by
    intro l
    induction l with
    | nil => rfl
    | cons x l ih =>
      unfold foldE
      rw [List.any_cons]
      cases hx : p x with
      | true => rfl
      | false => exact ih
  rw [← hfold]
  refine loop_list l (fun i _ => (i : Int)) _ _ (fun _ _ => True) (fun i b x hx _ => ?_) (fun b _ => hf) () trivial
  have := hs i x hx
  cases hp : p x with
  | true => rw [hp] at this; exact .inr ⟨yes, rfl, this⟩
  | false => rw [hp] at this; exact .inl ⟨(), rfl, this, trivial⟩

/-- Bytes that no text has. -/
def ctlB (b : UInt8) : Bool := (b < 32 && b != 9) || b == 127
theorem ctl_nat (b : UInt8) : (bif (bif (decide ((b.toNat : Int) < (32 : Int))) then ((b.toNat : Int) != (9 : Int)) else false) then true else ((b.toNat : Int) == (127 : Int))) = ctlB b :=
  byte_eq (p := fun b => bif (bif (decide ((b.toNat : Int) < (32 : Int))) then ((b.toNat : Int) != (9 : Int)) else false) then true else ((b.toNat : Int) == (127 : Int))) (q := ctlB) (by kernel_rfl) b
theorem Control_eq (b : UInt8) : intarsiaref03_Control (b.toNat : Int) = some (ctlB b) := congrArg some (ctl_nat b)
theorem may1_eq (b : UInt8) : table_may_1 (b.toNat : Int) = some (ctlB b) := congrArg some (ctl_nat b)
theorem Right1_eq (b : UInt8) : start_Right_1 (b.toNat : Int) = some (ctlB b) := congrArg some (ctl_nat b)

/-- A field that may be. -/
def mayB (f : S_Field) : Bool := tokenB f.Name && ((trim f.Value == f.Value) && (decide (f.Value.length ≤ 1000) && !(f.Value.any ctlB)))
structure FSmall (f : S_Field) : Prop where
  name : f.Name.length ≤ maxLen
  value : f.Value.length ≤ maxLen
theorem may_eq {f : S_Field} (h : FSmall f) : table_may f = some (mayB f) := by
  unfold table_may
  rw [Token_eq h.name, Option.bind_some, gcall_val (fun _ => Trim_eq h.value), Option.bind_some]
  rw [gcall_val (fun _ => ContainsFunc_byte ctlB may1_eq h.value), Option.bind_some]
  refine congrArg some ?_
  unfold mayB
  have e : decide ((f.Value.length : Int) ≤ (1000 : Int)) = decide (f.Value.length ≤ 1000) := by simp; omega
  rw [e]
  cases tokenB f.Name <;> cases hd : decide (f.Value.length ≤ 1000) <;> cases ha : f.Value.any ctlB <;> cases ht : (trim f.Value == f.Value) <;> simp [ht]
theorem refMay_eq {f : S_Field} (h : FSmall f) : intarsiaref04_May f = some (mayB f) := by
  unfold intarsiaref04_May
  have e : decide ((f.Value.length : Int) ≤ (1000 : Int)) = decide (f.Value.length ≤ 1000) := by simp; omega
  rw [any_loop h.value ctlB false (tokenB f.Name && ((trim f.Value == f.Value) && decide (f.Value.length ≤ 1000))) (fun i x hx => ?_) ?_]
  · refine congrArg some ?_
    unfold mayB
    cases tokenB f.Name <;> cases decide (f.Value.length ≤ 1000) <;> cases f.Value.any ctlB <;> cases (trim f.Value == f.Value) <;> rfl
  · unfold intarsiaref04_May_b1
    rw [dlt_self, cond_false, refToken_eq h.name, Option.bind_some, gcall_val (fun _ => refTrim_eq h.value), Option.bind_some, e]
    cases tokenB f.Name <;> cases decide (f.Value.length ≤ 1000) <;> cases ht : (trim f.Value == f.Value) <;> simp [ht]
  · have hlt := lt_of_get hx
    unfold intarsiaref04_May_b1
    rw [dlt_true hlt, cond_true, idx_at hx, Option.bind_some, Control_eq, Option.bind_some, wrap_inc hlt h.value]
    cases ctlB x <;> rfl

/-- A row of fields that may be. -/
def rightB (l : List S_Field) : Bool := decide (l.length ≤ 40) && l.all mayB
theorem Right_eq {l : List S_Field} (hl : l.length ≤ maxLen) (h : ∀ f, f ∈ l → FSmall f) : table_Right l = some (rightB l) := by
  unfold table_Right
  have e : decide ((l.length : Int) ≤ (40 : Int)) = decide (l.length ≤ 40) := by simp; omega
  rw [gcall_val (fun _ => ContainsFunc_field (fun f => !mayB f) (fun f hf => by show table_Right_1 f = _; unfold table_Right_1; rw [may_eq (h f hf)]; rfl) hl), Option.bind_some, e]
  refine congrArg some ?_
  unfold rightB
  have : l.all mayB = !(l.any fun f => !mayB f) := by simp [List.any_eq_not_all_not]
  rw [this]
  cases decide (l.length ≤ 40) <;> rfl
theorem refRight_eq {l : List S_Field} (hl : l.length ≤ maxLen) (h : ∀ f, f ∈ l → FSmall f) : intarsiaref04_Right l = some (rightB l) := by
  unfold intarsiaref04_Right
  have e : decide ((l.length : Int) ≤ (40 : Int)) = decide (l.length ≤ 40) := by simp; omega
  have hfold : ∀ (m : List S_Field), foldE (β := Unit) (fun _ f => bif mayB f then .inl () else .inr false) (fun _ => decide (l.length ≤ 40)) m () = (m.all mayB && decide (l.length ≤ 40)) := by
    intro m
    induction m with
    | nil => rfl
    | cons x m ih =>
      unfold foldE
      rw [List.all_cons]
      cases hx : mayB x with
      | true => exact ih
      | false => rfl
  unfold rightB
  rw [Bool.and_comm, ← hfold]
  refine loop_list l (fun i _ => (i : Int)) _ _ (fun _ _ => True) (fun i b x hx _ => ?_) (fun b _ => ?_) () trivial
  · have hlt := lt_of_get hx
    unfold intarsiaref04_Right_b1
    rw [dlt_true hlt, cond_true, idx_at hx, Option.bind_some, refMay_eq (h x (List.mem_of_getElem? hx)), Option.bind_some]
    cases mayB x with
    | true => exact .inl ⟨(), rfl, by rw [wrap_inc hlt hl]; rfl, trivial⟩
    | false => exact .inr ⟨_, rfl, rfl⟩
  · unfold intarsiaref04_Right_b1
    rw [dlt_self, cond_false, e]

/-! ### First lines -/
/-- Bytes that no address has. -/
def badU (b : UInt8) : Bool := (b ≤ 32 || b > 126) || ([34, 35, 60, 62, 92, 94, 123, 124, 125, 96] : List UInt8).contains b
theorem target1_eq (b : UInt8) : start_target_1 (b.toNat : Int) = some (badU b) := by
  unfold start_target_1
  rw [gcall_val (fun _ => IndexByte_eq _ _), Option.bind_some, u8_nat]
  refine congrArg some ?_
  have h1 := indexByte_has ([34, 35, 60, 62, 92, 94, 123, 124, 125, 96] : Bytes) b
  have h2 := byte_eq (p := fun b => bif (bif (decide ((b.toNat : Int) ≤ (32 : Int))) then true else (decide ((b.toNat : Int) > (126 : Int)))) then true else ([34, 35, 60, 62, 92, 94, 123, 124, 125, 96] : Bytes).contains b) (q := badU) (by kernel_rfl) b
  rw [← h2, ← h1]
  cases (bif (decide ((b.toNat : Int) ≤ (32 : Int))) then true else (decide ((b.toNat : Int) > (126 : Int)))) <;> rfl
def http : Bytes := [104, 116, 116, 112, 58, 47, 47]
def targetB (s : Bytes) : Bool := (s == ([42] : Bytes)) || ((hasPre s [47] || hasPre s http) && (decide (s.length ≤ 500) && !(s.any badU)))
theorem target_eq {s : Bytes} (hs : s.length ≤ maxLen) : start_target s = some (targetB s) := by
  unfold start_target targetB
  have e : decide ((s.length : Int) ≤ (500 : Int)) = decide (s.length ≤ 500) := by simp; omega
  cases h0 : (s == ([42] : Bytes)) with
  | true => rfl
  | false =>
    rw [cond_false, HasPrefix_eq, Option.bind_some, gcall_val (fun _ => HasPrefix_eq s _), Option.bind_some, gcall_val (fun _ => ContainsFunc_byte badU target1_eq hs), Option.bind_some, e]
    refine congrArg some ?_
    show _ = (false || ((hasPre s [47] || hasPre s [104, 116, 116, 112, 58, 47, 47]) && _))
    cases hasPre s [47] <;> cases hasPre s [104, 116, 116, 112, 58, 47, 47] <;> cases decide (s.length ≤ 500) <;> cases s.any badU <;> rfl
theorem find_eq {s : Bytes} (hs : s.length ≤ maxLen) (c : UInt8) : intarsiaref05_find s (c.toNat : Int) = some (idxP (fun b => b == c) s 0) := by
  unfold intarsiaref05_find
  rw [← foldE_idx]
  refine loop_list s (fun i _ => (i : Int)) _ _ (fun i b => b = i) (fun i b x hx hi => ?_) (fun b hi => ?_) 0 rfl
  · subst hi
    have hlt := lt_of_get hx
    unfold intarsiaref05_find_b1
    rw [dlt_true hlt, cond_true, idx_at hx, Option.bind_some]
    have : ((x.toNat : Int) == (c.toNat : Int)) = (x == c) := by
      rw [Bool.eq_iff_iff, beq_iff_eq, beq_iff_eq]
      exact ⟨fun h => UInt8.toNat_inj.1 (by omega), fun h => by rw [h]⟩
    rw [this]
    cases x == c with
    | true => exact .inr ⟨_, rfl, rfl⟩
    | false => exact .inl ⟨_, rfl, by rw [wrap_inc hlt hs]; rfl, rfl⟩
  · unfold intarsiaref05_find_b1
    rw [dlt_self]; rfl
theorem refBytes_eq {s : Bytes} (hs : s.length ≤ maxLen) : intarsiaref05_Bytes s = some (!(s.any badU)) := by
  unfold intarsiaref05_Bytes
  rw [any_loop hs badU false true (fun i x hx => ?_) ?_]
  · cases s.any badU <;> rfl
  · unfold intarsiaref05_Bytes_b1
    rw [dlt_self]; rfl
  · have hlt := lt_of_get hx
    unfold intarsiaref05_Bytes_b1
    rw [dlt_true hlt, cond_true, idx_at hx, Option.bind_some, gcall_val (fun _ => find_eq (by unfold maxLen; simp) x), Option.bind_some, wrap_inc hlt hs]
    have h2 := byte_eq (p := fun b => bif (bif (bif (decide ((b.toNat : Int) < (33 : Int))) then true else (decide ((b.toNat : Int) > (126 : Int)))) then true else ((b.toNat : Int) == (96 : Int))) then true else ([34, 35, 60, 62, 92, 94, 123, 124, 125] : Bytes).any fun c => c == b) (q := badU) (by kernel_rfl) x
    rw [← h2, ← idxP_any _ _ 0]
    cases (bif (bif (decide ((x.toNat : Int) < (33 : Int))) then true else (decide ((x.toNat : Int) > (126 : Int)))) then true else ((x.toNat : Int) == (96 : Int))) with
    | true => rfl
    | false =>
      simp only [Bool.not_false, cond_true, cond_false]
      cases decide (idxP (fun c => c == x) ([34, 35, 60, 62, 92, 94, 123, 124, 125] : Bytes) 0 ≥ (0 : Int)) <;> rfl

/-- A first line that may be. -/
def startB (s : S_Start) : Bool :=
  (s.Minor == 0 || s.Minor == 1) &&
  bif s.Code == 0 then (s.Reason == ([] : Bytes)) && (tokenB s.Method && (decide (s.Method.length ≤ 20) && targetB s.Target))
  else (decide (s.Code ≥ 100) && decide (s.Code ≤ 599)) && ((s.Method == ([] : Bytes)) && ((s.Target == ([] : Bytes)) && (decide (s.Reason.length ≤ 100) && ((trim s.Reason == s.Reason) && !(s.Reason.any ctlB)))))
structure SSmall (s : S_Start) : Prop where
  method : s.Method.length ≤ maxLen
  target : s.Target.length ≤ maxLen
  reason : s.Reason.length ≤ maxLen

theorem sRight_eq {s : S_Start} (h : SSmall s) : start_Right s = some (startB s) := by
  unfold start_Right startB
  have e1 : decide ((s.Method.length : Int) ≤ (20 : Int)) = decide (s.Method.length ≤ 20) := by simp; omega
  have e2 : decide ((s.Reason.length : Int) ≤ (100 : Int)) = decide (s.Reason.length ≤ 100) := by simp; omega
  have e0 : (bif (s.Minor != (0 : Int)) then (s.Minor != (1 : Int)) else false) = !(s.Minor == 0 || s.Minor == 1) := by
    show (bif !(s.Minor == 0) then !(s.Minor == 1) else false) = _
    cases s.Minor == 0 <;> cases s.Minor == 1 <;> rfl
  rw [e0]
  cases (s.Minor == 0 || s.Minor == 1) with
  | false => rfl
  | true =>
    simp only [Bool.not_true, cond_false, Bool.true_and]
    cases s.Code == 0 with
    | true =>
      simp only [cond_true]
      rw [gcall_val (fun _ => Token_eq h.method), Option.bind_some, gcall_val (fun _ => target_eq h.target), Option.bind_some, e1]
      refine congrArg some ?_
      cases (s.Reason == ([] : Bytes)) <;> cases tokenB s.Method <;> cases decide (s.Method.length ≤ 20) <;> cases targetB s.Target <;> rfl
    | false =>
      simp only [cond_false]
      rw [gcall_val (fun _ => Trim_eq h.reason), Option.bind_some, gcall_val (fun _ => ContainsFunc_byte ctlB Right1_eq h.reason), Option.bind_some, e2]
      refine congrArg some ?_
      cases decide (s.Code ≥ 100) <;> cases decide (s.Code ≤ 599) <;> cases (s.Method == ([] : Bytes)) <;> cases (s.Target == ([] : Bytes)) <;> cases decide (s.Reason.length ≤ 100) <;> cases s.Reason.any ctlB <;> cases ht : (trim s.Reason == s.Reason) <;> simp [ht]

theorem tgt_eq {t : Bytes} (ht : t.length ≤ maxLen) : targetB t = ((t == ([42] : Bytes)) || ((decide (t.length > 0) && (decide (t.length ≤ 500) && !(t.any badU))) && ((t.head? == some 47) || (t.take 7 == http)))) := by
  unfold targetB
  have h1 : hasPre t [47] = (t.head? == some 47) := by
    cases t with
    | nil => rfl
    | cons x t =>
      show (47 == x && ([] : Bytes).isPrefixOf t) = _
      rw [Bool.eq_iff_iff]
      simp only [List.isPrefixOf, Bool.and_true, beq_iff_eq, List.head?_cons, Option.some.injEq]
      exact ⟨fun h => h.symm, fun h => h.symm⟩
  have h2 : hasPre t http = (t.take 7 == http) := by
    unfold hasPre
    rw [Bool.eq_iff_iff, List.isPrefixOf_iff_prefix, List.prefix_iff_eq_take, beq_iff_eq]
    exact ⟨fun h => h.symm, fun h => h.symm⟩
  rw [h1, h2]
  cases t with
  | nil => rfl
  | cons x t =>
    rw [show decide ((x :: t).length > 0) = true by simp]
    cases ((x :: t) == ([42] : Bytes)) <;> cases ((x :: t).head? == some 47) <;> cases ((x :: t).take 7 == http) <;> cases decide ((x :: t).length ≤ 500) <;> cases (x :: t).any badU <;> rfl

theorem refSRight_eq {s : S_Start} (h : SSmall s) : intarsiaref06_Right s = some (startB s) := by
  unfold intarsiaref06_Right startB
  have e1 : decide ((s.Method.length : Int) ≤ (20 : Int)) = decide (s.Method.length ≤ 20) := by simp; omega
  have e2 : decide ((s.Reason.length : Int) ≤ (100 : Int)) = decide (s.Reason.length ≤ 100) := by simp; omega
  have e0 : (bif (decide (s.Minor < (0 : Int))) then true else (decide (s.Minor > (1 : Int)))) = !(s.Minor == 0 || s.Minor == 1) := by
    rw [Bool.eq_iff_iff]
    by_cases h1 : s.Minor < 0
    · simp [h1]; omega
    · simp [h1]; omega
  rw [e0]
  cases (s.Minor == 0 || s.Minor == 1) with
  | false => rfl
  | true =>
    simp only [Bool.not_true, cond_false, Bool.true_and]
    show (bif !(s.Code == 0) then _ else _) = _
    cases s.Code == 0 with
    | false =>
      simp only [Bool.not_false, cond_true, cond_false]
      have e3 : decide (s.Code < (600 : Int)) = decide (s.Code ≤ 599) := by simp; omega
      rw [any_loop h.reason ctlB false ((decide (s.Code ≥ 100) && decide (s.Code ≤ 599)) && ((s.Method == ([] : Bytes)) && ((s.Target == ([] : Bytes)) && (decide (s.Reason.length ≤ 100) && (trim s.Reason == s.Reason))))) (fun i x hx => ?_) ?_]
      · refine congrArg some ?_
        cases decide (s.Code ≥ 100) <;> cases decide (s.Code ≤ 599) <;> cases (s.Method == ([] : Bytes)) <;> cases (s.Target == ([] : Bytes)) <;> cases decide (s.Reason.length ≤ 100) <;> cases s.Reason.any ctlB <;> cases (trim s.Reason == s.Reason) <;> rfl
      · unfold intarsiaref06_Right_b1
        rw [dlt_self, cond_false, gcall_val (fun _ => refTrim_eq h.reason), Option.bind_some, e2, e3]
        cases decide (s.Code ≥ 100) <;> cases decide (s.Code ≤ 599) <;> cases (s.Method == ([] : Bytes)) <;> cases (s.Target == ([] : Bytes)) <;> cases decide (s.Reason.length ≤ 100) <;> cases ht : (trim s.Reason == s.Reason) <;> simp [ht]
      · have hlt := lt_of_get hx
        unfold intarsiaref06_Right_b1
        rw [dlt_true hlt, cond_true, idx_at hx, Option.bind_some, Control_eq, Option.bind_some, wrap_inc hlt h.reason]
        cases ctlB x <;> rfl
    | true =>
      simp only [Bool.not_true, cond_true, cond_false]
      have e4 : decide ((s.Target.length : Int) > (0 : Int)) = decide (s.Target.length > 0) := by simp <;> omega
      have e5 : decide ((s.Target.length : Int) ≤ (500 : Int)) = decide (s.Target.length ≤ 500) := by simp; omega
      rw [tgt_eq h.target, gcall_val (fun _ => refBytes_eq h.target), Option.bind_some, e1, e4, e5]
      generalize hg : s.Target = t at *
      cases t with
      | nil =>
        refine Eq.trans (b := some false) rfl ?_
        refine congrArg some ?_
        cases (s.Reason == ([] : Bytes)) <;> cases tokenB s.Method <;> cases decide (s.Method.length ≤ 20) <;> rfl
      | cons x t =>
        have hd0 : decide ((x :: t).length > 0) = true := by simp
        rw [hd0]
        have hx : ∀ g, gidx g (x :: t) (0 : Int) = some (bif g then x else default) := fun g => by cases g <;> rfl
        have h7 : decide ((((x :: t).length : Nat) : Int) ≥ (7 : Int)) = decide (7 ≤ (x :: t).length) := by simp; omega
        have hsl : ∀ g, (g = true → 7 ≤ (x :: t).length) → gslc g (x :: t) 0 (7 : Int) = some ((x :: t).take 7) := fun g hg => by
          unfold gslc
          rw [chk_pos (fun h => by have := hg h; omega)]; rfl
        rw [hx, Option.bind_some, h7, hsl _ (fun h => by simp at h; have := h.2; simp; omega), Option.bind_some, gcall_val (fun _ => refToken_eq h.method), Option.bind_some]
        refine congrArg some ?_
        have hb : ((x.toNat : Int) == (47 : Int)) = ((x :: t).head? == some 47) := by
          rw [Bool.eq_iff_iff, beq_iff_eq, List.head?_cons, beq_iff_eq, Option.some.injEq]
          exact ⟨fun h => UInt8.toNat_inj.1 (by have : (47 : UInt8).toNat = 47 := rfl; omega), fun h => by rw [h]; rfl⟩
        have hbd : (((default : UInt8).toNat : Int) == (47 : Int)) = false := rfl
        have hlong : ((x :: t).take 7 == http) = true → decide (7 ≤ (x :: t).length) = true := fun h => by
          have := congrArg List.length (beq_iff_eq.1 h)
          simp [http] at this ⊢; omega
        show _ = ((s.Reason == ([] : Bytes)) && (tokenB s.Method && (decide (s.Method.length ≤ 20) && (((x :: t) == ([42] : Bytes)) || ((true && (decide ((x :: t).length ≤ 500) && !((x :: t).any badU))) && (((x :: t).head? == some 47) || ((x :: t).take 7 == http)))))))
        rw [show ([104, 116, 116, 112, 58, 47, 47] : Bytes) = http from rfl, ← hb]
        have hq : (bif decide (7 ≤ (x :: t).length) then ((x :: t).take 7 == http) else false) = ((x :: t).take 7 == http) := by
          revert hlong
          cases ((x :: t).take 7 == http) with
          | false => intro _; cases decide (7 ≤ (x :: t).length) <;> rfl
          | true => intro h; rw [h rfl]; rfl
        have hxd : ∀ g : Bool, (((bif g then x else default : UInt8).toNat : Int) == (47 : Int)) = (bif g then ((x.toNat : Int) == (47 : Int)) else false) := fun g => by cases g <;> rfl
        simp only [hq, hxd]
        generalize ((x :: t).take 7 == http) = q1
        generalize ((x.toNat : Int) == (47 : Int)) = q3
        cases ((x :: t) == ([42] : Bytes)) <;> cases decide ((x :: t).length ≤ 500) <;> cases (x :: t).any badU <;> cases q1 <;> cases q3 <;> cases (s.Reason == ([] : Bytes)) <;> cases tokenB s.Method <;> cases decide (s.Method.length ≤ 20) <;> rfl
end Go.Proofs.YtbgldnleackgeaaDoor
