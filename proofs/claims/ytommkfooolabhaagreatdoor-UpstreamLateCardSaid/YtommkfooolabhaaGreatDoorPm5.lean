/-
  Generic: operations that only yield a value.
-/
import Derived.Test.YtommkfooolabhaaGreatDoorPm4
import Derived.WalkLawsBesides
namespace Go.Pm
open Go Go.RowKit
set_option linter.unusedVariables false
set_option linter.unusedSimpArgs false
theorem wrap_wrap (k : IntKind) (n : Int) : k.wrap (k.wrap n) = k.wrap n := by
  cases k <;> simp only [IntKind.wrap, IntKind.bits, IntKind.signed] <;> (repeat' split) <;> simp_all <;> omega
def unc (g : Bool) (a : AV) (k : AV → Prop) : Prop :=
  match a with
  | .cond c v => (g = true → c = true) ∧ k v
  | v => k v
theorem unc_mono {g : Bool} {a : AV} {k k' : AV → Prop} (hk : ∀ a, k a → k' a) (h : unc g a k) : unc g a k' := by
  unfold unc at h ⊢
  split at h
  · exact ⟨h.1, hk _ h.2⟩
  · exact hk _ h
theorem unc_ok {g : Bool} {a : AV} {k : AV → Prop} (h : unc g a k) :
    ∃ a', k a' ∧ (g = true → ∀ (F : Nat → Nat → Prop) (w : World) (ι : Nat → Option Nat) (v : Value), Rep F w ι v a → Rep F w ι v a') := by
  unfold unc at h
  split at h
  · rename_i c v
    refine ⟨v, h.2, fun hg F w ι u hu => ?_⟩
    have := h.1 hg
    subst this
    cases hu
    assumption
  · exact ⟨_, h, fun _ _ _ _ _ hu => hu⟩
theorem unc_ok' {g : Bool} {a : AV} {k : AV → Prop} (h : unc g a k) :
    ∃ a', k a' ∧ (g = true → ∀ (F : Nat → Nat → Prop) (w : World) (ι : Nat → Option Nat) (v : Value), Rep F w ι v a → Rep F w ι v a') ∧ ((∀ c v, a ≠ .cond c v) → a' = a) := by
  unfold unc at h
  split at h
  · rename_i c v
    refine ⟨v, h.2, fun hg F w ι u hu => ?_, fun hn => absurd rfl (hn c v)⟩
    have := h.1 hg
    subst this
    cases hu
    assumption
  · exact ⟨_, h, fun _ _ _ _ _ hu => hu, fun _ => rfl⟩
def opcs (o : Oper) : List (TypeId × Operand) :=
  match o.op with
  | .move x | .assign x => [(o.type, x)]
  | .pick c a b => [(0, c), (o.type, a), (o.type, b)]
  | .binOp _ t x y _ => [(t, x), (t, y)]
  | .unOp _ t x => [(t, x)]
  | .insert _ m k x | .mapUpdate _ m k x => [(0, m), (0, k), (0, x)]
  | .lookup _ m k _ => [(0, m), (0, k)]
  | .range t x => [(t, x)]
  | .next x _ => [(0, x)]
  | .convert s _ x => [(s, x)]
  | .load _ x => [(0, x)]
  | .store t a v => [(0, a), (t, v)]
  | .box e v => [(e, v)]
  | .fieldAddr _ x _ => [(0, x)]
  | .field t x _ => [(t, x)]
  | .indexAddr t x i | .index t x i => [(t, x), (0, i)]
  | .slice t x lo hi mx => [(t, x)] ++ (lo.toList ++ hi.toList ++ mx.toList).map fun y => (0, y)
  | .extract x _ => [(0, x)]
  | .nilCheck x => [(0, x)]
  | .makeInterface t x => [(t, x)]
  | .typeAssert x _ _ _ => [(0, x)]
  | .makeFunc _ a b => (a ++ b).toList.map fun y => (0, y)
  | .build _ ps | .buildSlice _ _ ps => ps.toList.map fun y => (0, y.2)
  | .makeSlice _ a b => [(0, a), (0, b)]
  | .call c => (match c.callee with | .value f => [(0, f)] | .invoke x _ => [(0, x)] | _ => []) ++ (c.argTypes.toList.zip c.args.toList)
  | _ => []
def constOk (T : Tab) (o : Oper) : Bool := (opcs o).all fun x => cOk T x.1 x.2
theorem constOk.at {T : Tab} {o : Oper} (h : constOk T o = true) {ty : TypeId} {x : Operand} (hm : (ty, x) ∈ opcs o) : cOk T ty x = true := by
  simp only [constOk, List.all_eq_true] at h
  exact h _ hm
section
variable {E : Env} {P : Program} {T : Tab} {st : St} {o : Oper} {g : Bool} {k : AV → Option Nat → List Loc → Prop}
def Yld (E : Env) (P : Program) (st : St) (o : Oper) (g : Bool) (k : AV → Option Nat → List Loc → Prop) : Prop :=
  ∃ r tag N, k r tag N ∧ (g = true → HFact E P st o r tag st.H st.k N [])
theorem mem2 {x y : Operand} {l : Loc} : (l ∈ opN x → l ∈ opN x ++ opN y) ∧ (l ∈ opN y → l ∈ opN x ++ opN y) := ⟨List.mem_append_left _, List.mem_append_right _⟩
def evMove (T : Tab) (st : St) (g : Bool) (ty : TypeId) (x : Operand) (k : AV → Option Nat → List Loc → Prop) : Prop := unc g (evV T st ty x) fun a => k a (tgV st x) (opN x)
theorem TagOk.same {G : Gh} {v : Value} {a a' : AV} {tag : Option Nat} (h : TagOk G v a tag) (he : (∀ c v, a ≠ .cond c v) → a' = a) : TagOk G v a' tag := by
  cases tag with
  | none => trivial
  | some i =>
    rcases h with ⟨sz, xs, n, cap, g, lo, hi, ad, h1, h2⟩ | ⟨cs, h1, h2⟩
    · rw [he (fun c v e => by rw [e] at h1; cases h1)]
      exact .inl ⟨sz, xs, n, cap, g, lo, hi, ad, h1, h2⟩
    · rw [he (fun c v e => by rw [e] at h1; cases h1)]
      exact .inr ⟨cs, h1, h2⟩
theorem evMove_ok {x : Operand} (hc : constOk T o = true) (ho : o.op = .move x ∨ o.op = .assign x) (h : evMove T st g o.type x k) : Yld E P st o g k := by
  unfold evMove at h
  obtain ⟨a', h, ha, hs⟩ := unc_ok' h
  refine ⟨_, _, _, h, fun hg => .value fun B G w a hgd hN => ?_⟩
  have hr := evV_ok (T := T) (ty := o.type) (x := x) hgd (constOk.at hc (by rcases ho with ho | ho <;> simp [opcs, ho])) hN
  exact ⟨a.eval x, by rcases ho with ho | ho <;> simp [execOp, ho], ha hg _ _ _ _ hr.1, hr.2.same hs⟩
def AV.sel (t : Bool) (x y : AV) : AV :=
  match x, y with
  | .bool p, .bool q => .bool (bif t then p else q)
  | x, y => bif t then x else y
theorem AV.sel_true (x y : AV) : AV.sel true x y = x := by unfold AV.sel; split <;> rfl
theorem AV.sel_false (x y : AV) : AV.sel false x y = y := by unfold AV.sel; split <;> rfl
def evPick (T : Tab) (st : St) (g : Bool) (ty : TypeId) (c x y : Operand) (k : AV → Option Nat → List Loc → Prop) : Prop :=
  unc g (evV T st 0 c) fun c' => match c' with
    | .bool t => unc (g && t) (evV T st ty x) fun x' => unc (g && !t) (evV T st ty y) fun y' => match x' with
      | .any => t = false ∧ k y' none (opN c ++ (opN x ++ opN y))
      | x' => k (AV.sel t x' y') none (opN c ++ (opN x ++ opN y))
    | _ => False
theorem evPick_ok {c x y : Operand} (hc : constOk T o = true) (ho : o.op = .pick c x y) (h : evPick T st g o.type c x y k) : Yld E P st o g k := by
  unfold evPick at h
  obtain ⟨c', h, hc'⟩ := unc_ok h
  split at h
  · rename_i t
    obtain ⟨x', h, hx'⟩ := unc_ok h
    obtain ⟨y', h, hy'⟩ := unc_ok h
    split at h
    · obtain ⟨ht, hk⟩ := h
      subst ht
      refine ⟨_, _, _, hk, fun hg => .value fun B G w a hgd hN => ?_⟩
      have h1 := hc' hg _ _ _ _ (evV_ok (T := T) hgd (constOk.at hc (ty := 0) (x := c) (by simp [opcs, ho])) fun l hl => hN l (by simp [hl])).1
      have h3 := (evV_ok (T := T) hgd (constOk.at hc (ty := o.type) (x := y) (by simp [opcs, ho])) fun l hl => hN l (by simp [hl])).1
      generalize hcv : a.eval c = cv at h1
      cases h1
      exact ⟨a.eval y, by simp [execOp, ho, hcv, asBool], hy' (by simp [hg]) _ _ _ _ h3, trivial⟩
    refine ⟨_, _, _, h, fun hg => .value fun B G w a hgd hN => ?_⟩
    have h1 := hc' hg _ _ _ _ (evV_ok (T := T) hgd (constOk.at hc (ty := 0) (x := c) (by simp [opcs, ho])) fun l hl => hN l (by simp [hl])).1
    have h2 := (evV_ok (T := T) hgd (constOk.at hc (ty := o.type) (x := x) (by simp [opcs, ho])) fun l hl => hN l (by simp [hl])).1
    have h3 := (evV_ok (T := T) hgd (constOk.at hc (ty := o.type) (x := y) (by simp [opcs, ho])) fun l hl => hN l (by simp [hl])).1
    generalize hcv : a.eval c = cv at h1
    cases h1
    cases t with
    | true => exact ⟨a.eval x, by simp [execOp, ho, hcv, asBool], by rw [AV.sel_true]; exact hx' (by simp [hg]) _ _ _ _ h2, trivial⟩
    | false => exact ⟨a.eval y, by simp [execOp, ho, hcv, asBool], by rw [AV.sel_false]; exact hy' (by simp [hg]) _ _ _ _ h3, trivial⟩
  · exact h.elim
def kindEq (a b : IntKind) : Bool := a == b
def evInt (g : Bool) (op : BinOp) (ka kb : IntKind) (m n : Int) (k : AV → Prop) : Prop :=
  match op with
  | .shl => (g = true → 0 ≤ n ∧ n ≤ ka.bits) ∧ k (.int ka (ka.wrap (m * 2 ^ n.toNat)))
  | .shr => (g = true → (0 ≤ n ∧ n ≤ ka.bits) ∧ ka.wrap (m / 2 ^ n.toNat) = m / 2 ^ n.toNat) ∧ k (.int ka (m / 2 ^ n.toNat))
  | op => match kindEq ka kb with
    | false => False
    | true => match op with
      | .add => k (.int ka (ka.wrap (m + n)))
      | .sub => k (.int ka (ka.wrap (m - n)))
      | .mul => k (.int ka (ka.wrap (m * n)))
      | .quo => (g = true → (n == 0) = false) ∧ k (.int ka (ka.wrap (m.tdiv n)))
      | .rem => (g = true → (n == 0) = false ∧ ka.wrap (m.tmod n) = m.tmod n) ∧ k (.int ka (m.tmod n))
      | .and => k (.int ka (bits .and ka m n))
      | .or => k (.int ka (bits .or ka m n))
      | .xor => k (.int ka (bits .xor ka m n))
      | .andNot => k (.int ka (bits .andNot ka m n))
      | .eql => k (.bool (m == n))
      | .neq => k (.bool (m != n))
      | .lss => k (.bool (decide (m < n)))
      | .leq => k (.bool (decide (m ≤ n)))
      | .gtr => k (.bool (decide (m > n)))
      | .geq => k (.bool (decide (m ≥ n)))
      | _ => False
def evStr (g : Bool) (op : BinOp) (s t : Bytes) (k : AV → Prop) : Prop :=
  match op with
  | .add => (g = true → s.length + t.length ≤ maxLen) ∧ k (.str (s ++ t))
  | .eql => k (.bool (s == t))
  | .neq => k (.bool (!(s == t)))
  | .lss => k (.bool (Op.bytesLess s t))
  | .leq => k (.bool (Op.bytesLess s t || s == t))
  | .gtr => k (.bool (!(Op.bytesLess s t || s == t)))
  | .geq => k (.bool (!Op.bytesLess s t))
  | _ => False
theorem bits_wrap (op : BinOp) (ka : IntKind) (m n : Int) : ka.wrap (bits op ka m n) = bits op ka m n := by unfold bits; exact wrap_wrap _ _
theorem evInt_ok {g : Bool} {op : BinOp} {ka kb : IntKind} {m n : Int} {k : AV → Prop} (h : evInt g op ka kb m n k) (t : TypeId) (x y : Operand) :
    ∃ r, k r ∧ ∀ (hg : g = true) (w : World), ∃ v, (do eqGuard op t x y (.int ka m) (.int kb n); binOp op t (.int ka m) (.int kb n) : Sem Value).run P w = .ok v w ∧ ∀ (F : Nat → Nat → Prop) (ι : Nat → Option Nat), Rep F w ι v r := by
  unfold evInt at h
  split at h
  · obtain ⟨hc, h⟩ := h
    exact ⟨_, h, fun hg w => ⟨_, by obtain ⟨h0, h1⟩ := hc hg; simp [eqGuard_shl, binOp_shl, shift_shl _ _ _ _ h0 h1], fun F ι => .int _ _ _ (wrap_wrap _ _)⟩⟩
  · obtain ⟨hc, h⟩ := h
    exact ⟨_, h, fun hg w => ⟨_, by obtain ⟨⟨h0, h1⟩, h2⟩ := hc hg; simp [eqGuard_shr, binOp_shr, shift_shr _ _ _ _ h0 h1], fun F ι => .int _ _ _ (hc hg).2⟩⟩
  · rename_i op' _ _
    split at h
    · exact h.elim
    · rename_i hk
      have hk' : ka = kb := by simpa [kindEq] using hk
      subst hk'
      split at h
      · exact ⟨_, h, fun hg w => ⟨_, by simp [eqGuard_add, binOp_add, Op.intArith], fun F ι => .int _ _ _ (wrap_wrap _ _)⟩⟩
      · exact ⟨_, h, fun hg w => ⟨_, by simp [eqGuard_sub, binOp_sub, Op.intArith], fun F ι => .int _ _ _ (wrap_wrap _ _)⟩⟩
      · exact ⟨_, h, fun hg w => ⟨_, by simp [eqGuard_mul, binOp_mul, Op.intArith], fun F ι => .int _ _ _ (wrap_wrap _ _)⟩⟩
      · obtain ⟨hc, h⟩ := h
        exact ⟨_, h, fun hg w => ⟨_, by have h0' : ¬ n = 0 := by { have := hc hg; simpa using this }
                                        simp [eqGuard_quo, binOp_quo, Op.intDiv, h0'], fun F ι => .int _ _ _ (wrap_wrap _ _)⟩⟩
      · obtain ⟨hc, h⟩ := h
        exact ⟨_, h, fun hg w => ⟨_, by have h0' : ¬ n = 0 := by { have := (hc hg).1; simpa using this }
                                        simp [eqGuard_rem, binOp_rem, Op.intDiv, h0'], fun F ι => .int _ _ _ (hc hg).2⟩⟩
      · exact ⟨_, h, fun hg w => ⟨_, by simp [eqGuard_and, binOp_and, intBits_and], fun F ι => .int _ _ _ (bits_wrap ..)⟩⟩
      · exact ⟨_, h, fun hg w => ⟨_, by simp [eqGuard_or, binOp_or, intBits_or], fun F ι => .int _ _ _ (bits_wrap ..)⟩⟩
      · exact ⟨_, h, fun hg w => ⟨_, by simp [eqGuard_xor, binOp_xor, intBits_xor], fun F ι => .int _ _ _ (bits_wrap ..)⟩⟩
      · exact ⟨_, h, fun hg w => ⟨_, by simp [eqGuard_andNot, binOp_andNot, intBits_andNot], fun F ι => .int _ _ _ (bits_wrap ..)⟩⟩
      all_goals first
        | exact h.elim
        | exact ⟨_, h, fun hg w => ⟨_, by simp [eqGuard_at_int, binOp_eql, binOp_neq, binOp_lss, binOp_leq, binOp_gtr, binOp_geq]; try rfl, fun F ι => .bool ..⟩⟩
theorem evStr_ok {g : Bool} {op : BinOp} {s t : Bytes} {k : AV → Prop} (h : evStr g op s t k) (ty : TypeId) (x y : Operand) :
    ∃ r, k r ∧ ∀ (hg : g = true) (w : World), ∃ v, (do eqGuard op ty x y (.string ⟨s.toArray⟩) (.string ⟨t.toArray⟩); binOp op ty (.string ⟨s.toArray⟩) (.string ⟨t.toArray⟩) : Sem Value).run P w = .ok v w ∧ ∀ (F : Nat → Nat → Prop) (ι : Nat → Option Nat), Rep F w ι v r := by
  unfold evStr at h
  split at h
  · obtain ⟨hc, h⟩ := h
    refine ⟨_, h, fun hg w => ⟨.string ⟨(s ++ t).toArray⟩, ?_, fun F ι => .str _ _ (by have := hc hg; simpa using this)⟩⟩
    have h0 := hc hg
    have hs : ¬ (((⟨s.toArray⟩ : ByteArray).size + (⟨t.toArray⟩ : ByteArray).size : Nat) : Int) > IntKind.i64.max := by
      have h1 : (⟨s.toArray⟩ : ByteArray).size = s.length := by simp [ByteArray.size]
      have h2 : (⟨t.toArray⟩ : ByteArray).size = t.length := by simp [ByteArray.size]
      rw [h1, h2, IntKind.max_i64]; unfold maxLen at h0; omega
    have hap : (⟨s.toArray⟩ : ByteArray) ++ ⟨t.toArray⟩ = ⟨(s ++ t).toArray⟩ := by
      apply ByteArray.ext
      simp
    simp only [eqGuard_at_string, binOp_string_add, Op.stringOp, if_neg hs, hap]
    rfl
  all_goals first
    | exact h.elim
    | (refine ⟨_, h, fun hg w => ⟨_, ?_, fun F ι => .bool ..⟩⟩; simp [eqGuard_at_string, binOp_string_eql, binOp_string_neq, binOp, Op.stringOp, ByteArray.toList_mk]; try rfl)
def evEq (op : BinOp) (b : Bool) (k : AV → Prop) : Prop :=
  match op with
  | .eql => k (.bool b)
  | .neq => k (.bool (!b))
  | _ => False
def eqCells : List Nat → List AV → List AV → Option Bool
  | [], [], [] => some true
  | 0 :: ks, .str s :: xs, .str t :: ys => (eqCells ks xs ys).map fun r => (s == t) && r
  | 1 :: ks, .bool p :: xs, .bool q :: ys => (eqCells ks xs ys).map fun r => (p == q) && r
  | 2 :: ks, .int j m :: xs, .int k n :: ys => if kindEq j k then (eqCells ks xs ys).map fun r => (m == n) && r else none
  | _, _, _ => none
theorem eqFields_ok {F : Nat → Nat → Prop} {w w' : World} {ι : Nat → Option Nat} : ∀ (ks : List Nat) (xs ys : List AV) (b : Bool), eqCells ks xs ys = some b → ∀ (vs us : List Value), vs.length = xs.length → us.length = ys.length →
    (∀ (i : Nat) (v : Value) (c : AV), vs[i]? = some v → xs[i]? = some c → Rep F w ι v c) → (∀ (i : Nat) (v : Value) (c : AV), us[i]? = some v → ys[i]? = some c → Rep F w ι v c) →
    ∀ (fs : List Field) (off : Nat) (A B : Array Value), (∀ j, j < vs.length → A[off + j]? = vs[j]?) → (∀ j, j < us.length → B[off + j]? = us[j]?) → eqFld P ks fs off = true →
    (Op.eqFields 9999 A B fs).run P w' = .ok b w' := by
  intro ks xs ys
  fun_induction eqCells ks xs ys with
  | case1 =>
    intro b h vs us hv hu _ _ fs off A B _ _ hf
    cases fs with
    | nil => simp at h; subst h; simp [Op.eqFields]
    | cons _ _ => simp [eqFld] at hf
  | case5 => intro b h; cases h
  | case6 => intro b h; cases h
  | case2 ks s xs t ys ih =>
    intro b h vs us hv hu hrv hru fs off A B hA hB hf
    cases fs with
    | nil => simp [eqFld] at hf
    | cons f fs =>
    cases vs with
    | nil => simp at hv
    | cons v vs =>
    cases us with
    | nil => simp at hu
    | cons u us =>
    have h1 := hrv 0 v _ rfl rfl
    have h2 := hru 0 u _ rfl rfl
    have hA0 := hA 0 (by simp)
    have hB0 := hB 0 (by simp)
    simp only [Nat.add_zero, List.getElem?_cons_zero] at hA0 hB0
    cases h1; cases h2
    simp only [eqFld, Bool.and_eq_true, beq_iff_eq, bne_iff_ne] at hf
    obtain ⟨⟨⟨f1, f2⟩, f3⟩, f4⟩ := hf
    have hu' : P.underlying f.type = some .string := by split at f3 <;> simp_all
    simp only [Option.map_eq_some_iff] at h
    obtain ⟨c, hc, rfl⟩ := h
    have ih' := ih c hc vs us (by simpa using hv) (by simpa using hu) (fun i v c a1 a2 => hrv (i + 1) v c a1 a2) (fun i v c a1 a2 => hru (i + 1) v c a1 a2) fs (off + 1) A B (fun j hj => by
      have := hA (j + 1) (by simpa using hj)
      rw [show off + 1 + j = off + (j + 1) by omega, this]; rfl) (fun j hj => by
      have := hB (j + 1) (by simpa using hj)
      rw [show off + 1 + j = off + (j + 1) by omega, this]; rfl) f4
    have hag : ∀ w, (isAgg f.type).run P w = .ok false w := fun w => by simp [isAgg, run_underlying hu']
    simp only [Op.eqFields, if_pos f2, Sem.run_bind, part, hag, f1, hA0, hB0, Result.andThen_ok, Bool.false_eq_true, if_false, Sem.run_pure, run_equalIn_string _ _ _ _ _ hu', ByteArray.toList_mk]
    cases hst : (s == t) <;> simp_all
  | case3 ks p xs q ys ih =>
    intro b h vs us hv hu hrv hru fs off A B hA hB hf
    cases fs with
    | nil => simp [eqFld] at hf
    | cons f fs =>
    cases vs with
    | nil => simp at hv
    | cons v vs =>
    cases us with
    | nil => simp at hu
    | cons u us =>
    have h1 := hrv 0 v _ rfl rfl
    have h2 := hru 0 u _ rfl rfl
    have hA0 := hA 0 (by simp)
    have hB0 := hB 0 (by simp)
    simp only [Nat.add_zero, List.getElem?_cons_zero] at hA0 hB0
    cases h1; cases h2
    simp only [eqFld, Bool.and_eq_true, beq_iff_eq, bne_iff_ne] at hf
    obtain ⟨⟨⟨f1, f2⟩, f3⟩, f4⟩ := hf
    have hu' : P.underlying f.type = some .bool := by split at f3 <;> simp_all
    simp only [Option.map_eq_some_iff] at h
    obtain ⟨c, hc, rfl⟩ := h
    have ih' := ih c hc vs us (by simpa using hv) (by simpa using hu) (fun i v c a1 a2 => hrv (i + 1) v c a1 a2) (fun i v c a1 a2 => hru (i + 1) v c a1 a2) fs (off + 1) A B (fun j hj => by
      have := hA (j + 1) (by simpa using hj)
      rw [show off + 1 + j = off + (j + 1) by omega, this]; rfl) (fun j hj => by
      have := hB (j + 1) (by simpa using hj)
      rw [show off + 1 + j = off + (j + 1) by omega, this]; rfl) f4
    have hag : ∀ w, (isAgg f.type).run P w = .ok false w := fun w => by simp [isAgg, run_underlying hu']
    simp only [Op.eqFields, if_pos f2, Sem.run_bind, part, hag, f1, hA0, hB0, Result.andThen_ok, Bool.false_eq_true, if_false, Sem.run_pure, run_equalIn_bool' _ _ _ _ _ hu']
    cases hst : (p == q) <;> simp_all
  | case4 ks j m xs k n ys hk ih =>
    intro b h vs us hv hu hrv hru fs off A B hA hB hf
    cases fs with
    | nil => simp [eqFld] at hf
    | cons f fs =>
    cases vs with
    | nil => simp at hv
    | cons v vs =>
    cases us with
    | nil => simp at hu
    | cons u us =>
    have h1 := hrv 0 v _ rfl rfl
    have h2 := hru 0 u _ rfl rfl
    have hA0 := hA 0 (by simp)
    have hB0 := hB 0 (by simp)
    simp only [Nat.add_zero, List.getElem?_cons_zero] at hA0 hB0
    have hjk : j = k := by simpa [kindEq] using hk
    subst hjk
    cases h1; cases h2
    simp only [eqFld, Bool.and_eq_true, beq_iff_eq, bne_iff_ne] at hf
    obtain ⟨⟨⟨f1, f2⟩, f3⟩, f4⟩ := hf
    obtain ⟨kk, hu'⟩ : ∃ kk, P.underlying f.type = some (.int kk) := by
      split at f3 <;> simp_all
    simp only [Option.map_eq_some_iff] at h
    obtain ⟨c, hc, rfl⟩ := h
    have ih' := ih c hc vs us (by simpa using hv) (by simpa using hu) (fun i v c a1 a2 => hrv (i + 1) v c a1 a2) (fun i v c a1 a2 => hru (i + 1) v c a1 a2) fs (off + 1) A B (fun j hj => by
      have := hA (j + 1) (by simpa using hj)
      rw [show off + 1 + j = off + (j + 1) by omega, this]; rfl) (fun j hj => by
      have := hB (j + 1) (by simpa using hj)
      rw [show off + 1 + j = off + (j + 1) by omega, this]; rfl) f4
    have hag : ∀ w, (isAgg f.type).run P w = .ok false w := fun w => by simp [isAgg, run_underlying hu']
    simp only [Op.eqFields, if_pos f2, Sem.run_bind, part, hag, f1, hA0, hB0, Result.andThen_ok, Bool.false_eq_true, if_false, Sem.run_pure, run_equalIn_int _ _ _ _ _ _ _ hu']
    cases hst : (m == n) <;> simp_all
def evBin (T : Tab) (st : St) (g : Bool) (op : BinOp) (ty : TypeId) (x y : Operand) (k : AV → Option Nat → List Loc → Prop) : Prop :=
  unc g (evV T st ty x) fun a => unc g (evV T st ty y) fun b => match a, b with
    | .int ka m, .int kb n => evInt g op ka kb m n fun r => k r none (opN x ++ opN y)
    | .str s, .str t => evStr g op s t fun r => k r none (opN x ++ opN y)
    | .bool p, .bool q => (T.at ty).any (fun ti => ti.desc matches .bool) = true ∧ evEq op (p == q) fun r => k r none (opN x ++ opN y)
    | .agg xs, .agg ys => match T.at ty with
      | none => False
      | some ti => match eqCells ti.eqk xs ys with
        | none => False
        | some b => ti.eqk.isEmpty = false ∧ evEq op b fun r => k r none (opN x ++ opN y)
    | _, _ => False
theorem evEq_ok {op : BinOp} {b : Bool} {k : AV → Prop} (h : evEq op b k) : (op = .eql ∧ k (.bool b)) ∨ (op = .neq ∧ k (.bool (!b))) := by
  unfold evEq at h
  split at h
  · exact .inl ⟨rfl, h⟩
  · exact .inr ⟨rfl, h⟩
  · exact h.elim
theorem evBin_ok (hT : TOk P T) {op : BinOp} {ty yt : TypeId} {x y : Operand} (hc : constOk T o = true) (ho : o.op = .binOp op ty x y yt) (h : evBin T st g op ty x y k) : Yld E P st o g k := by
  unfold evBin at h
  obtain ⟨a', h, ha'⟩ := unc_ok h
  obtain ⟨b', h, hb'⟩ := unc_ok h
  have key : ∀ (B : Base) (G : Gh) (w : World) (a : Act), Good E B G w → (∀ l, l ∈ opN x ++ opN y → RepL G w a l st) → g = true → Rep G.F w G.ι (a.eval x) a' ∧ Rep G.F w G.ι (a.eval y) b' := fun B G w a hgd hN hg =>
    ⟨ha' hg _ _ _ _ (evV_ok (T := T) hgd (constOk.at hc (ty := ty) (x := x) (by simp [opcs, ho])) fun l hl => hN l (mem2.1 hl)).1,
     hb' hg _ _ _ _ (evV_ok (T := T) hgd (constOk.at hc (ty := ty) (x := y) (by simp [opcs, ho])) fun l hl => hN l (mem2.2 hl)).1⟩
  have hrun : ∀ (a : Act) (w : World) (v : Value), (do eqGuard op ty x y (a.eval x) (a.eval y); binOp op ty (a.eval x) (a.eval y) : Sem Value).run P w = .ok v w → (execOp a.eval o).run P w = .ok (.value v) w := by
    intro a w v hv
    simp only [execOp, ho, Sem.run_bind] at hv ⊢
    generalize (eqGuard op ty x y (a.eval x) (a.eval y)).run P w = r at hv ⊢
    cases r with
    | ok u w' =>
      simp only [Result.andThen_ok] at hv ⊢
      rw [hv]; rfl
    | halt _ _ => simp [Result.andThen] at hv
  split at h
  · obtain ⟨r, h, hr⟩ := evInt_ok h ty x y
    refine ⟨r, none, _, h, fun hg => .value fun B G w a hgd hN => ?_⟩
    obtain ⟨h1, h2⟩ := key B G w a hgd hN hg
    obtain ⟨v, hv, hrep⟩ := hr hg w
    refine ⟨v, hrun a w v ?_, hrep _ _, trivial⟩
    generalize a.eval x = vx at *
    generalize a.eval y = vy at *
    cases h1; cases h2; exact hv
  · obtain ⟨r, h, hr⟩ := evStr_ok h ty x y
    refine ⟨r, none, _, h, fun hg => .value fun B G w a hgd hN => ?_⟩
    obtain ⟨h1, h2⟩ := key B G w a hgd hN hg
    obtain ⟨v, hv, hrep⟩ := hr hg w
    refine ⟨v, hrun a w v ?_, hrep _ _, trivial⟩
    generalize a.eval x = vx at *
    generalize a.eval y = vy at *
    cases h1; cases h2; exact hv
  · rename_i p q
    obtain ⟨ht, h⟩ := h
    obtain ⟨ti, hti, hd⟩ : ∃ ti, T.at ty = some ti ∧ ti.desc = .bool := by
      cases hx : T.at ty with
      | none => rw [hx] at ht; cases ht
      | some ti =>
        rw [hx] at ht
        refine ⟨ti, rfl, ?_⟩
        simp only [Option.any_some] at ht
        split at ht
        · assumption
        · cases ht
    have hu := (hT _ _ hti).under
    rw [hd] at hu
    rcases evEq_ok h with ⟨rfl, h⟩ | ⟨rfl, h⟩
    all_goals
      refine ⟨_, none, _, h, fun hg => .value fun B G w a hgd hN => ?_⟩
      obtain ⟨h1, h2⟩ := key B G w a hgd hN hg
      have hr := hrun a w
      generalize a.eval x = vx at *
      generalize a.eval y = vy at *
      cases h1; cases h2
      refine ⟨_, hr _ ?_, .bool .., trivial⟩
      simp [eqGuard_at_bool, binOp, Op.equal, Op.maxDepth, run_equalIn_bool' _ _ _ _ _ hu]
  · rename_i xs ys
    split at h
    · exact h.elim
    · rename_i ti hti
      split at h
      · exact h.elim
      · rename_i b hb
        obtain ⟨hne, h⟩ := h
        have hf := hT _ _ hti
        have heq := hf.eqs
        rw [hne] at heq
        simp only [Bool.false_or, eqTyOk, Bool.and_eq_true, Bool.not_eq_true'] at heq
        obtain ⟨⟨h1, h2⟩, h3⟩ := heq
        obtain ⟨fs, hfs, hfl⟩ : ∃ fs, P.underlying ty = some (.struct fs) ∧ eqFld P ti.eqk fs.toList 0 = true := by
          split at h1
          · rename_i fs hh; exact ⟨fs, hh, h1⟩
          · cases h1
        have hfo : P.fieldsOf ty = fs := by simp [Program.fieldsOf, hfs]
        have hrunE : ∀ (B : Base) (G : Gh) (w : World) (a : Act), Good E B G w → (∀ l, l ∈ opN x ++ opN y → RepL G w a l st) → g = true → ∃ vs us, a.eval x = .agg vs ∧ a.eval y = .agg us ∧ (Op.equalIn 10000 ty (.agg vs) (.agg us)).run P w = .ok b w := by
          intro B G w a hgd hN hg
          obtain ⟨r1, r2⟩ := key B G w a hgd hN hg
          generalize a.eval x = vx at *
          generalize a.eval y = vy at *
          cases r1 with
          | agg _ vs _ hl _ hr =>
          cases r2 with
          | agg _ us _ hl' _ hr' =>
          refine ⟨_, _, rfl, rfl, ?_⟩
          rw [run_equalIn_agg _ _ _ _ _ (by rw [hfo]; exact hfs) h2, hfo]
          exact eqFields_ok _ _ _ _ hb vs us hl hl' hr hr' _ 0 _ _ (fun j hj => by simp) (fun j hj => by simp) hfl
        rcases evEq_ok h with ⟨rfl, h⟩ | ⟨rfl, h⟩
        all_goals
          refine ⟨_, none, _, h, fun hg => .value fun B G w a hgd hN => ?_⟩
          obtain ⟨vs, us, e1, e2, e3⟩ := hrunE B G w a hgd hN hg
          refine ⟨_, hrun a w _ ?_, .bool .., trivial⟩
          rw [e1, e2]
          simp only [Sem.run_bind, run_eqGuard_agg _ _ _ _ _ _ _ h3, Result.andThen_ok, run_eql_struct, run_neq_struct, e3]
  · exact h.elim
def evUn (T : Tab) (st : St) (g : Bool) (op : UnOp) (ty : TypeId) (x : Operand) (k : AV → Option Nat → List Loc → Prop) : Prop :=
  unc g (evV T st ty x) fun a => match op, a with
    | .not, .bool b => k (.bool (!b)) none (opN x)
    | .neg, .int ka n => k (.int ka (ka.wrap (0 - n))) none (opN x)
    | _, _ => False
theorem evUn_ok {op : UnOp} {ty : TypeId} {x : Operand} (hc : constOk T o = true) (ho : o.op = .unOp op ty x) (h : evUn T st g op ty x k) : Yld E P st o g k := by
  unfold evUn at h
  obtain ⟨a', h, ha'⟩ := unc_ok h
  split at h
  all_goals first
    | exact h.elim
    | (refine ⟨_, none, _, h, fun hg => .value fun B G w a hgd hN => ?_⟩
       have h1 := ha' hg _ _ _ _ (evV_ok (T := T) hgd (constOk.at hc (ty := ty) (x := x) (by simp [opcs, ho])) hN).1
       generalize hv : a.eval x = vx at *
       cases h1
       refine ⟨_, by simp only [execOp, ho, hv, Op.unary]; rfl, ?_, trivial⟩
       first | exact .bool .. | exact .int _ _ _ (wrap_wrap _ _))
end
end Go.Pm
