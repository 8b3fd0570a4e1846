/-
  Plain laws, part 4: rows of fields; decimal numbers; how long a body is.
-/
import Derived.Test.YtbgldnleackgeaaDoorPl3
namespace Go.Proofs.YtbgldnleackgeaaDoor
open Go Go.Pm
set_option linter.unusedVariables false

theorem app_ok {α : Type} {e : Nat} {s t : List α} (h : s.length + t.length ≤ 1000000) (he : e ≤ 1000) : app e s t = some (s ++ t) := by
  unfold app
  refine chk_pos ⟨by unfold maxLen; omega, ?_⟩
  calc (s.length + t.length) * e ≤ 1000000 * 1000 := Nat.mul_le_mul h he
    _ ≤ _ := by decide
theorem mul32 {n : Nat} (h : n ≤ 1000000) : n ≤ maxLen := by unfold maxLen; omega

/-! ### Rows of fields -/
theorem filter_fold {α : Type} (p : α → Bool) : ∀ (l acc : List α), foldE (ρ := List α) (fun a x => .inl (bif p x then a ++ [x] else a)) (fun a => a) l acc = acc ++ l.filter p
  | [], acc => by simp [foldE]
  | x :: l, acc => by
    show foldE _ _ l (bif p x then acc ++ [x] else acc) = _
    rw [filter_fold p l]
    cases hx : p x <;> simp [hx]
theorem keep_eq {l : List S_Field} {pi : S_Field → Option Bool} (p : S_Field → Bool) (hp : ∀ f, f ∈ l → pi f = some (p f)) (hl : l.length ≤ 1000000) : table_keep_api_Field l pi = some (l.filter p) := by
  unfold table_keep_api_Field
  have key := loop_list (body := table_keep_api_Field_b1 l pi) l (fun i b => (b, (i : Int))) (fun a x => .inl (bif p x then a ++ [x] else a)) (fun a => a) (fun i b => b.length ≤ i) (fun i b x hx hi => ?_) (fun b hi => ?_) [] (Nat.le_refl _)
  · rw [show (([] : List S_Field), (0 : Int)) = (([] : List S_Field), ((0 : Nat) : Int)) from rfl, key, filter_fold]; rfl
  · have hlt := lt_of_get hx
    refine .inl ⟨_, rfl, ?_, ?_⟩
    · unfold table_keep_api_Field_b1
      dsimp only
      rw [dlt_true hlt, cond_true, idx_at hx, Option.bind_some, hp x (List.mem_of_getElem? hx), Option.bind_some, wrap_inc hlt (mul32 hl), app_ok (by simp; omega) (by omega), Option.bind_some]
      cases p x <;> rfl
    · cases p x <;> simp <;> omega
  · unfold table_keep_api_Field_b1
    dsimp only
    rw [dlt_self]; rfl

/-- The fields of a name; their values. -/
def isN (n : Bytes) (f : S_Field) : Bool := lower f.Name == lower n
def valsN (l : List S_Field) (n : Bytes) : List Bytes := (l.filter (isN n)).map (·.Value)
theorem map_fold {α β : Type} (g : α → β) : ∀ (l : List α) (acc : List β), foldE (ρ := List β) (fun a x => .inl (a ++ [g x])) (fun a => a) l acc = acc ++ l.map g
  | [], acc => by simp [foldE]
  | x :: l, acc => by
    show foldE _ _ l (acc ++ [g x]) = _
    rw [map_fold g l]; simp
theorem All_eq {l : List S_Field} {n : Bytes} (hl : l.length ≤ 1000000) (h : ∀ f, f ∈ l → FSmall f) (hn : n.length ≤ maxLen) : table_All l n = some (valsN l n) := by
  unfold table_All table_named valsN
  rw [Option.bind_some, keep_eq (isN n) (fun f hf => by
    show table_named_1 f n = _
    unfold table_named_1
    rw [Same_eq (h f hf).name hn]; rfl) hl, Option.bind_some]
  have hk : (l.filter (isN n)).length ≤ 1000000 := Nat.le_trans (List.length_filter_le ..) hl
  generalize l.filter (isN n) = m at hk
  have key := loop_list (body := table_All_b1 m) m (fun i b => (b, (i : Int))) (fun a x => .inl (a ++ [x.Value])) (fun a => a) (fun i b => b.length ≤ i) (fun i b x hx hi => ?_) (fun b hi => ?_) [] (Nat.le_refl _)
  · rw [show (([] : List Bytes), (0 : Int)) = (([] : List Bytes), ((0 : Nat) : Int)) from rfl, key, map_fold]; rfl
  · have hlt := lt_of_get hx
    refine .inl ⟨_, rfl, ?_, by simp; omega⟩
    unfold table_All_b1
    dsimp only
    rw [dlt_true hlt, cond_true, idx_at hx, Option.bind_some, wrap_inc hlt (mul32 hk), app_ok (by simp; omega) (by omega), Option.bind_some]
  · unfold table_All_b1
    dsimp only
    rw [dlt_self]; rfl
theorem valsN_cons (x : S_Field) (l : List S_Field) (n : Bytes) : valsN (x :: l) n = bif isN n x then x.Value :: valsN l n else valsN l n := by
  unfold valsN
  rw [List.filter_cons]
  cases isN n x <;> rfl
theorem refAll_eq {l : List S_Field} {n : Bytes} (hl : l.length ≤ 1000000) (h : ∀ f, f ∈ l → FSmall f) (hn : n.length ≤ maxLen) : intarsiaref04_All l n = some (valsN l n) := by
  unfold intarsiaref04_All
  have hf : ∀ (m : List S_Field) (acc : List Bytes), foldE (ρ := List Bytes) (fun a x => .inl (bif isN n x then a ++ [x.Value] else a)) (fun a => a) m acc = acc ++ valsN m n := by
    intro m
    induction m with
    | nil => intro acc; simp [foldE, valsN]
    | cons x m ih =>
      intro acc
      show foldE _ _ m (bif isN n x then acc ++ [x.Value] else acc) = _
      rw [ih, valsN_cons]
      cases isN n x <;> simp
  have key := loop_list (body := intarsiaref04_All_b1 l n) l (fun i b => (b, (i : Int))) (fun a x => .inl (bif isN n x then a ++ [x.Value] else a)) (fun a => a) (fun i b => b.length ≤ i) (fun i b x hx hi => ?_) (fun b hi => ?_) [] (Nat.le_refl _)
  · rw [show (([] : List Bytes), (0 : Int)) = (([] : List Bytes), ((0 : Nat) : Int)) from rfl, key, hf]; rfl
  · have hlt := lt_of_get hx
    refine .inl ⟨_, rfl, ?_, ?_⟩
    · unfold intarsiaref04_All_b1
      dsimp only
      rw [dlt_true hlt, cond_true, idx_at hx, Option.bind_some, refSame_eq (h x (List.mem_of_getElem? hx)).name hn, Option.bind_some, wrap_inc hlt (mul32 hl), app_ok (by simp; omega) (by omega), Option.bind_some]
      show _ = some (Sum.inl ((bif isN n x then _ else _), _))
      unfold isN
      cases (lower x.Name == lower n) <;> rfl
    · cases isN n x <;> simp <;> omega
  · unfold intarsiaref04_All_b1
    dsimp only
    rw [dlt_self]; rfl
theorem refRemove_eq {l : List S_Field} {n : Bytes} (hl : l.length ≤ 1000000) (h : ∀ f, f ∈ l → FSmall f) (hn : n.length ≤ maxLen) : intarsiaref04_Remove l n = some (l.filter fun f => !isN n f) := by
  unfold intarsiaref04_Remove
  have key := loop_list (body := intarsiaref04_Remove_b1 l n) l (fun i b => (b, (i : Int))) (fun a x => .inl (bif !isN n x then a ++ [x] else a)) (fun a => a) (fun i b => b.length ≤ i) (fun i b x hx hi => ?_) (fun b hi => ?_) [] (Nat.le_refl _)
  · rw [show (([] : List S_Field), (0 : Int)) = (([] : List S_Field), ((0 : Nat) : Int)) from rfl, key, filter_fold]; rfl
  · have hlt := lt_of_get hx
    refine .inl ⟨_, rfl, ?_, ?_⟩
    · unfold intarsiaref04_Remove_b1
      dsimp only
      rw [dlt_true hlt, cond_true, idx_at hx, Option.bind_some, refSame_eq (h x (List.mem_of_getElem? hx)).name hn, Option.bind_some, wrap_inc hlt (mul32 hl), app_ok (by simp; omega) (by omega), Option.bind_some]
      show _ = some (Sum.inl ((bif !isN n x then _ else _), _))
      unfold isN
      cases (lower x.Name == lower n) <;> rfl
    · cases isN n x <;> simp <;> omega
  · unfold intarsiaref04_Remove_b1
    dsimp only
    rw [dlt_self]; rfl

/-! ### All values of a name, in one -/
def sep : Bytes := [44, 32]
theorem tail_le (M : Nat) : ∀ (r : List Bytes), (∀ s, s ∈ r → s.length ≤ M) → (Lib.joinTail sep r).length ≤ r.length * (M + 2)
  | [], _ => by simp [Lib.joinTail]
  | x :: r, h => by
    have h1 := tail_le M r fun s hs => h s (List.mem_cons_of_mem _ hs)
    have h2 := h x (List.mem_cons_self ..)
    unfold Lib.joinTail at h1 ⊢
    simp only [List.map_cons, List.flatten_cons, List.length_append, List.length_cons, Nat.add_mul]
    have : sep.length = 2 := rfl
    omega
theorem join_le (M : Nat) (l : List Bytes) (h : ∀ s, s ∈ l → s.length ≤ M) : (Lib.join l sep).length ≤ l.length * (M + 2) := by
  cases l with
  | nil => simp [Lib.join]
  | cons x r =>
    rw [Lib.join_cons, List.length_append, List.length_cons, Nat.add_mul]
    have h1 := tail_le M r fun s hs => h s (List.mem_cons_of_mem _ hs)
    have h2 := h x (List.mem_cons_self ..)
    omega
theorem join_snoc (l : List Bytes) (x : Bytes) (h : l ≠ []) : Lib.join (l ++ [x]) sep = Lib.join l sep ++ sep ++ x := by
  cases l with
  | nil => exact absurd rfl h
  | cons y r =>
    rw [List.cons_append, Lib.join_cons, Lib.join_cons]
    unfold Lib.joinTail
    simp [List.append_assoc]
/-- Few values, none long. -/
structure LSmall (l : List Bytes) : Prop where
  len : l.length ≤ 100000
  each : ∀ s, s ∈ l → s.length ≤ 100000
theorem LSmall.join {l : List Bytes} (h : LSmall l) : (Lib.join l sep).length ≤ 10000200000 := by
  have h1 := join_le 100000 l h.each
  have h2 : l.length * (100000 + 2) ≤ 100000 * (100000 + 2) := Nat.mul_le_mul_right _ h.len
  omega
theorem LSmall.take {l : List Bytes} (h : LSmall l) (i : Nat) : LSmall (l.take i) := ⟨by have := h.len; simp; omega, fun s hs => h.each s (List.mem_of_mem_take hs)⟩
theorem Join_eq {l : List Bytes} (h : LSmall l) : strings_Join l [44, 32] = some (Lib.join l sep) := by
  unfold strings_Join
  have := h.join
  have := h.len
  exact chk_pos ⟨by omega, by show (Lib.join l sep).length ≤ _; omega⟩
theorem refJoined_eq {l : List Bytes} (h : LSmall l) : intarsiaref04_Joined l = some (Lib.join l sep) := by
  unfold intarsiaref04_Joined
  have hm : ∀ n, n ≤ 20000400000 → n ≤ maxLen := fun n h => by unfold maxLen; omega
  have key : loopO (intarsiaref04_Joined_b1 l) (([] : Bytes), (0 : Int)) = some (Lib.join l sep) := by
    have h' := loopO_rec (body := intarsiaref04_Joined_b1 l) (fun _ => Lib.join l sep) (fun x => l.length - x.2.toNat) (fun x => ∃ i : Nat, i ≤ l.length ∧ x = (Lib.join (l.take i) sep, (i : Int))) ?_ (([] : Bytes), (0 : Int)) ⟨0, Nat.zero_le _, by simp [Lib.join]⟩
    · exact h'
    · rintro _ ⟨i, hi, rfl⟩
      rcases Nat.lt_or_ge i l.length with hlt | hge
      · left
        have hj := (h.take i).join
        have hx : l[i]? = some l[i] := List.getElem?_eq_getElem hlt
        have hxl := h.each _ (List.getElem_mem hlt)
        refine ⟨(Lib.join (l.take (i + 1)) sep, ((i + 1 : Nat) : Int)), ?_, ⟨i + 1, hlt, rfl⟩, by simp; omega, rfl⟩
        unfold intarsiaref04_Joined_b1
        dsimp only
        rw [dlt_true hlt, cond_true, idx_at hx, Option.bind_some, wrap_inc hlt (hm _ (by have := h.len; omega)), List.take_succ_eq_append_getElem hlt]
        rcases Nat.eq_zero_or_pos i with h0 | h0
        · subst h0
          rw [show decide (((0 : Nat) : Int) > (0 : Int)) = false from rfl, cond_false, cat_ok (hm _ (by omega)), Option.bind_some]
          simp [Lib.join]
        · rw [show decide (((i : Nat) : Int) > (0 : Int)) = true by simp; omega, cond_true, cat_ok (hm _ (by simp; omega)), Option.bind_some, cat_ok (hm _ (by simp; omega)), Option.bind_some, join_snoc _ _ (by intro e; have h9 : (l.take i).length = i := by { rw [List.length_take]; omega }; rw [e] at h9; simp at h9; omega)]
          rfl
      · right
        have : i = l.length := by omega
        subst this
        unfold intarsiaref04_Joined_b1
        dsimp only
        rw [dlt_self, List.take_length]; rfl
  rw [key]; rfl

/-! ### Decimal numbers -/
def dv (b : UInt8) : Int := (b.toNat : Int) - 48
def isDig (b : UInt8) : Bool := b ≥ 48 && b ≤ 57
theorem dv_of {b : UInt8} (h : isDig b = true) : 0 ≤ dv b ∧ dv b ≤ 9 := by
  have := byte_all (p := fun b => !isDig b || (decide (0 ≤ dv b) && decide (dv b ≤ 9))) (by kernel_rfl) b
  rw [h] at this
  simpa using this
def over : Bytes → Int → Bool
  | [], _ => false
  | x :: l, n => bif decide (n * 10 + dv x > 1099511627776) then true else over l (n * 10 + dv x)
def valF : Bytes → Int → Int
  | [], n => n
  | x :: l, n => valF l (n * 10 + dv x)
def decR (t : Bytes) (n : Int) (long : Bool) : Int × Int := bif t.all isDig then (bif long || over t n then (0, 2) else (valF t n, 0)) else (0, 10)
def dec (s : Bytes) : Int × Int := bif s == ([] : Bytes) then (0, 10) else decR s 0 false

theorem dig1 (b : UInt8) : decide ((IntKind.u64.wrap (IntKind.u8.wrap ((b.toNat : Int) - (48 : Int)))) ≥ (10 : Int)) = !isDig b := by
  have := byte_all (p := fun b => decide ((IntKind.u64.wrap (IntKind.u8.wrap ((b.toNat : Int) - (48 : Int)))) ≥ (10 : Int)) == !isDig b) (by kernel_rfl) b
  simpa using this
theorem dig2 {b : UInt8} (h : isDig b = true) : IntKind.u64.wrap (IntKind.u8.wrap ((b.toNat : Int) - (48 : Int))) = dv b := by
  have := byte_all (p := fun b => !isDig b || (IntKind.u64.wrap (IntKind.u8.wrap ((b.toNat : Int) - (48 : Int))) == dv b)) (by kernel_rfl) b
  rw [h] at this
  simpa using this
def decStep (c : Int × Bool) (x : UInt8) : (Int × Bool) ⊕ (Int × Int) := bif isDig x then (bif decide (c.1 * 10 + dv x > 1099511627776) then .inl (0, true) else .inl (c.1 * 10 + dv x, c.2)) else .inr (0, 10)
def decFin (c : Int × Bool) : Int × Int := bif c.2 then (0, 2) else (c.1, 0)
def rdStep (c : Int) (x : UInt8) : Int ⊕ (Int ⊕ (Int × Int)) := bif decide (c * 10 + dv x > 1099511627776) then .inr (.inr (0, 2)) else .inl (c * 10 + dv x)
def rdFin (c : Int) : Int ⊕ (Int × Int) := .inr (c, 0)
theorem ReadDec_eq {s : Bytes} (hs : s.length ≤ maxLen) : number_ReadDec s = some (dec s) := by
  unfold number_ReadDec number_read_uint64 dec
  cases h0 : (s == ([] : Bytes)) with
  | true => rfl
  | false =>
    simp only [cond_false]
    have hf : ∀ (l : Bytes) (n : Int) (long : Bool), foldE decStep decFin l (n, long) = decR l n long := by
      intro l
      induction l with
      | nil => intro n long; unfold decR; cases long <;> rfl
      | cons x l ih =>
        intro n long
        unfold decR
        rw [List.all_cons, foldE_cons, show decStep (n, long) x = (bif isDig x then (bif decide (n * 10 + dv x > 1099511627776) then .inl (0, true) else .inl (n * 10 + dv x, long)) else .inr (0, 10)) from rfl]
        cases hx : isDig x with
        | false => rfl
        | true =>
          simp only [cond_true, Bool.true_and]
          unfold over valF
          cases hm : decide (n * 10 + dv x > 1099511627776) with
          | true =>
            simp only [cond_true]
            rw [ih]; unfold decR
            simp
          | false =>
            simp only [cond_false]
            rw [ih]; rfl
    have key := loop_list (body := number_read_uint64_b1 s 10 (fun x0 => number_ReadDec_1 x0)) s (fun i (c : Int × Bool) => (c.1, c.2, (i : Int))) decStep decFin (fun i c => 0 ≤ c.1 ∧ c.1 ≤ 1099511627776) (fun i c x hx hi => ?_) (fun c hi => ?_) (0, false) ⟨by simp, by simp⟩
    · rw [show ((IntKind.u64.wrap (0 : Int)), false, (0 : Int)) = ((0 : Int), false, ((0 : Nat) : Int)) from rfl, key, hf]; rfl
    · have hlt := lt_of_get hx
      unfold number_read_uint64_b1 number_ReadDec_1
      dsimp only
      rw [dlt_true hlt, cond_true, idx_at hx, Option.bind_some, Option.bind_some, dig1]
      unfold decStep
      cases hd : isDig x with
      | false => exact .inr ⟨_, rfl, rfl⟩
      | true =>
        have hdv := dv_of hd
        rw [dig2 hd, wrap_u64 (show 0 ≤ c.1 * 10 by omega) (by omega), wrap_u64 (show 0 ≤ c.1 * 10 + dv x by omega) (by omega), wrap_inc hlt hs]
        simp only [Bool.not_true, cond_false, cond_true]
        cases hm : decide (c.1 * 10 + dv x > 1099511627776) with
        | true => exact .inl ⟨(0, true), rfl, rfl, by simp, by simp⟩
        | false => exact .inl ⟨_, rfl, rfl, by show 0 ≤ c.1 * 10 + dv x; omega, by show c.1 * 10 + dv x ≤ _; simpa using hm⟩
    · unfold number_read_uint64_b1 decFin
      dsimp only
      rw [dlt_self]
      cases c.2 <;> rfl
theorem val1 (b : UInt8) : ∃ v, intarsiaref02_value (b.toNat : Int) = some v ∧ decide (v ≥ (10 : Int)) = (!isDig b) ∧ (isDig b = true → v = dv b) := by
  have := byte_all (p := fun b => match intarsiaref02_value (b.toNat : Int) with | some v => (decide (v ≥ (10 : Int)) == !isDig b) && (!isDig b || v == dv b) | none => false) (by kernel_rfl) b
  cases h : intarsiaref02_value (b.toNat : Int) with
  | none => rw [h] at this; cases this
  | some v =>
    rw [h] at this
    simp only [Bool.and_eq_true, beq_iff_eq, Bool.or_eq_true, Bool.not_eq_true'] at this
    exact ⟨v, rfl, this.1, fun hd => this.2.resolve_left (by rw [hd]; simp)⟩
theorem Read_eq {s : Bytes} (hs : s.length ≤ maxLen) : intarsiaref02_Read s 10 = some (dec s) := by
  unfold intarsiaref02_Read dec
  cases h0 : (s == ([] : Bytes)) with
  | true => rfl
  | false =>
    simp only [cond_false]
    -- the second loop
    have h2 : s.all isDig = true → loopO (intarsiaref02_Read_b2 s 10) ((0 : Int), (0 : Int)) = some (.inr (decR s 0 false)) := by
      intro hall
      have hf : ∀ (l : Bytes) (n : Int), l.all isDig = true → foldE rdStep rdFin l n = .inr (decR l n false) := by
        intro l
        induction l with
        | nil => intro n _; rfl
        | cons x l ih =>
          intro n ha
          rw [List.all_cons, Bool.and_eq_true] at ha
          unfold decR
          rw [List.all_cons, ha.1, ha.2, foldE_cons, show rdStep n x = (bif decide (n * 10 + dv x > 1099511627776) then .inr (.inr (0, 2)) else .inl (n * 10 + dv x)) from rfl]
          unfold over valF
          cases hm : decide (n * 10 + dv x > 1099511627776) with
          | true => rfl
          | false =>
            simp only [cond_false]
            rw [ih _ ha.2]; unfold decR; rw [ha.2]; rfl
      have key := loop_list (body := intarsiaref02_Read_b2 s 10) s (fun i (c : Int) => (c, (i : Int))) rdStep rdFin (fun i c => 0 ≤ c ∧ c ≤ 1099511627776) (fun i c x hx hi => ?_) (fun c hi => ?_) 0 ⟨by simp, by simp⟩
      · rw [show ((0 : Int), (0 : Int)) = ((0 : Int), ((0 : Nat) : Int)) from rfl, key, hf _ _ hall]
      · have hlt := lt_of_get hx
        have hd : isDig x = true := List.all_eq_true.1 hall x (List.mem_of_getElem? hx)
        have hdv := dv_of hd
        obtain ⟨v, v1, v2, v3⟩ := val1 x
        unfold intarsiaref02_Read_b2
        dsimp only
        rw [dlt_true hlt, cond_true, idx_at hx, Option.bind_some, v1, Option.bind_some, v3 hd, Int.mul_comm 10 c, wrap_u64 (show 0 ≤ c * 10 by omega) (by omega), wrap_u64 (show 0 ≤ c * 10 + dv x by omega) (by omega), wrap_inc hlt hs]
        unfold rdStep
        cases hm : decide (c * 10 + dv x > 1099511627776) with
        | true => exact .inr ⟨_, rfl, rfl⟩
        | false => exact .inl ⟨_, rfl, rfl, by omega, by simpa using hm⟩
      · unfold intarsiaref02_Read_b2
        dsimp only
        rw [dlt_self]; rfl
    have hf : ∀ (l : Bytes), foldE (β := Unit) (ρ := Int × Int) (fun _ x => bif isDig x then .inl () else .inr (0, 10)) (fun _ => decR s 0 false) l () = bif l.all isDig then decR s 0 false else (0, 10) := by
      intro l
      induction l with
      | nil => rfl
      | cons x l ih =>
        unfold foldE
        rw [List.all_cons]
        cases isDig x with
        | true => exact ih
        | false => rfl
    have hfin : (bif s.all isDig then decR s 0 false else ((0 : Int), (10 : Int))) = decR s 0 false := by
      unfold decR
      cases s.all isDig <;> rfl
    rw [← hfin, ← hf]
    have h3 : ∀ (m i : Nat), m + i = s.length → loopO (intarsiaref02_Read_b1 s 10) (i : Int) = (bif (s.take i).all isDig then some (foldE (β := Unit) (ρ := Int × Int) (fun _ x => bif isDig x then .inl () else .inr (0, 10)) (fun _ => decR s 0 false) (s.drop i) ()) else loopO (intarsiaref02_Read_b1 s 10) (i : Int)) := by
      intro m
      induction m with
      | zero =>
        intro i hm
        have : i = s.length := by omega
        subst this
        rw [List.take_length, List.drop_length]
        cases hall : s.all isDig with
        | false => rfl
        | true =>
          rw [loopO_eq]
          have hb : intarsiaref02_Read_b1 s 10 (s.length : Int) = some (.inr (decR s 0 false)) := by
            unfold intarsiaref02_Read_b1
            rw [dlt_self, cond_false, h2 hall]
          rw [hb]; rfl
      | succ m ih =>
        intro i hm
        have hlt : i < s.length := by omega
        have hx : s[i]? = some s[i] := List.getElem?_eq_getElem hlt
        cases hall : (s.take i).all isDig with
        | false => rfl
        | true =>
          rw [loopO_eq, List.drop_eq_getElem_cons hlt, cond_true]
          obtain ⟨v, v1, v2, v3⟩ := val1 s[i]
          unfold foldE
          have hb : intarsiaref02_Read_b1 s 10 (i : Int) = some (bif isDig s[i] then .inl ((i + 1 : Nat) : Int) else .inr (0, 10)) := by
            unfold intarsiaref02_Read_b1
            rw [dlt_true hlt, cond_true, idx_at hx, Option.bind_some, v1, Option.bind_some, v2, wrap_inc hlt hs]
            cases isDig s[i] <;> rfl
          rw [hb]
          cases hd : isDig s[i] with
          | false => rfl
          | true =>
            have h4 := ih (i + 1) (by omega)
            have h5 : (s.take (i + 1)).all isDig = true := by rw [List.take_succ_eq_append_getElem hlt, List.all_append, hall]; simp [hd]
            rw [h5, cond_true] at h4
            exact h4
    have := h3 s.length 0 (by omega)
    rw [List.take_zero, List.drop_zero] at this
    exact this
end Go.Proofs.YtbgldnleackgeaaDoor
