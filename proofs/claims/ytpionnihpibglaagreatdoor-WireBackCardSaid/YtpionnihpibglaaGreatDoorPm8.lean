/-
  Generic: how memory may turn: what stays true of it. New objects, new rows, stores.
-/
import Derived.Test.YtpionnihpibglaaGreatDoorPm4
import Derived.WalkLawsBesides
import Derived.Laws.BytesArg
import Derived.Laws.Slices
import Derived.Laws.Cells
import Derived.Laws.IdiomStrings
namespace Go.Pm
open Go Go.RowKit
set_option linter.unusedVariables false
set_option linter.unusedSimpArgs false
theorem wrap_wrap (k : IntKind) (n : Int) : k.wrap (k.wrap n) = k.wrap n := by
  cases k <;> simp only [IntKind.wrap, IntKind.bits, IntKind.signed] <;> (repeat' split) <;> simp_all <;> omega
def unc (g : Bool) (a : AV) (k : AV → Prop) : Prop :=
  match a with
  | .cond c v => (g = true → c = true) ∧ k v
  | v => k v
theorem unc_ok {g : Bool} {a : AV} {k : AV → Prop} (h : unc g a k) :
    ∃ a', k a' ∧ (g = true → ∀ (F : Nat → Nat → Prop) (w : World) (ι : Nat → Option Nat) (v : Value), Rep F w ι v a → Rep F w ι v a') := by
  unfold unc at h
  split at h
  · rename_i c v
    refine ⟨v, h.2, fun hg F w ι u hu => ?_⟩
    have := h.1 hg
    subst this
    cases hu
    assumption
  · exact ⟨_, h, fun _ _ _ _ _ hu => hu⟩
theorem unc_ok' {g : Bool} {a : AV} {k : AV → Prop} (h : unc g a k) :
    ∃ a', k a' ∧ (g = true → ∀ (F : Nat → Nat → Prop) (w : World) (ι : Nat → Option Nat) (v : Value), Rep F w ι v a → Rep F w ι v a') ∧ ((∀ c v, a ≠ .cond c v) → a' = a) := by
  unfold unc at h
  split at h
  · rename_i c v
    refine ⟨v, h.2, fun hg F w ι u hu => ?_, fun hn => absurd rfl (hn c v)⟩
    have := h.1 hg
    subst this
    cases hu
    assumption
  · exact ⟨_, h, fun _ _ _ _ _ hu => hu, fun _ => rfl⟩
def opcs (o : Oper) : List (TypeId × Operand) :=
  match o.op with
  | .move x | .assign x => [(o.type, x)]
  | .pick c a b => [(0, c), (o.type, a), (o.type, b)]
  | .binOp _ t x y _ => [(t, x), (t, y)]
  | .unOp _ t x => [(t, x)]
  | .insert _ m k x | .mapUpdate _ m k x => [(0, m), (0, k), (0, x)]
  | .lookup _ m k _ => [(0, m), (0, k)]
  | .range t x => [(t, x)]
  | .next x _ => [(0, x)]
  | .convert s _ x => [(s, x)]
  | .load _ x => [(0, x)]
  | .store t a v => [(0, a), (t, v)]
  | .box e v => [(e, v)]
  | .fieldAddr _ x _ => [(0, x)]
  | .field t x _ => [(t, x)]
  | .indexAddr t x i | .index t x i => [(t, x), (0, i)]
  | .slice t x lo hi mx => [(t, x)] ++ (lo.toList ++ hi.toList ++ mx.toList).map fun y => (0, y)
  | .extract x _ => [(0, x)]
  | .nilCheck x => [(0, x)]
  | .makeInterface t x => [(t, x)]
  | .makeFunc _ a b => (a ++ b).toList.map fun y => (0, y)
  | .build _ ps | .buildSlice _ _ ps => ps.toList.map fun y => (0, y.2)
  | .makeSlice _ a b => [(0, a), (0, b)]
  | .call c => (match c.callee with | .value f => [(0, f)] | _ => []) ++ (c.argTypes.toList.zip c.args.toList)
  | _ => []
def constOk (T : Tab) (o : Oper) : Bool := (opcs o).all fun x => cOk T x.1 x.2
theorem constOk.at {T : Tab} {o : Oper} (h : constOk T o = true) {ty : TypeId} {x : Operand} (hm : (ty, x) ∈ opcs o) : cOk T ty x = true := by
  simp only [constOk, List.all_eq_true] at h
  exact h _ hm
section
variable {E : Env} {P : Program} {T : Tab} {st : St} {o : Oper} {g : Bool} {k : AV → Option Nat → List Loc → Prop}
def Yld (E : Env) (P : Program) (st : St) (o : Oper) (g : Bool) (k : AV → Option Nat → List Loc → Prop) : Prop :=
  ∃ r tag N, k r tag N ∧ (g = true → HFact E P st o r tag st.H st.k N [])
theorem mem2 {x y : Operand} {l : Loc} : (l ∈ opN x → l ∈ opN x ++ opN y) ∧ (l ∈ opN y → l ∈ opN x ++ opN y) := ⟨List.mem_append_left _, List.mem_append_right _⟩
def evMove (T : Tab) (st : St) (g : Bool) (ty : TypeId) (x : Operand) (k : AV → Option Nat → List Loc → Prop) : Prop := unc g (evV T st ty x) fun a => k a (tgV st x) (opN x)
theorem TagOk.same {G : Gh} {v : Value} {a a' : AV} {tag : Option Nat} (h : TagOk G v a tag) (he : (∀ c v, a ≠ .cond c v) → a' = a) : TagOk G v a' tag := by
  cases tag with
  | none => trivial
  | some i =>
    rcases h with ⟨sz, xs, n, cap, g, lo, hi, ad, h1, h2⟩ | ⟨cs, h1, h2⟩
    · rw [he (fun c v e => by rw [e] at h1; cases h1)]
      exact .inl ⟨sz, xs, n, cap, g, lo, hi, ad, h1, h2⟩
    · rw [he (fun c v e => by rw [e] at h1; cases h1)]
      exact .inr ⟨cs, h1, h2⟩
theorem evMove_ok {x : Operand} (hc : constOk T o = true) (ho : o.op = .move x ∨ o.op = .assign x) (h : evMove T st g o.type x k) : Yld E P st o g k := by
  unfold evMove at h
  obtain ⟨a', h, ha, hs⟩ := unc_ok' h
  refine ⟨_, _, _, h, fun hg => .value fun B G w a hgd hN => ?_⟩
  have hr := evV_ok (T := T) (ty := o.type) (x := x) hgd (constOk.at hc (by rcases ho with ho | ho <;> simp [opcs, ho])) hN
  exact ⟨a.eval x, by rcases ho with ho | ho <;> simp [execOp, ho], ha hg _ _ _ _ hr.1, hr.2.same hs⟩
def AV.sel (t : Bool) (x y : AV) : AV :=
  match x, y with
  | .bool p, .bool q => .bool (bif t then p else q)
  | x, y => bif t then x else y
theorem AV.sel_true (x y : AV) : AV.sel true x y = x := by unfold AV.sel; split <;> rfl
theorem AV.sel_false (x y : AV) : AV.sel false x y = y := by unfold AV.sel; split <;> rfl
def evPick (T : Tab) (st : St) (g : Bool) (ty : TypeId) (c x y : Operand) (k : AV → Option Nat → List Loc → Prop) : Prop :=
  unc g (evV T st 0 c) fun c' => match c' with
    | .bool t => unc (g && t) (evV T st ty x) fun x' => unc (g && !t) (evV T st ty y) fun y' => match x' with
      | .any => t = false ∧ k y' none (opN c ++ (opN x ++ opN y))
      | x' => k (AV.sel t x' y') none (opN c ++ (opN x ++ opN y))
    | _ => False
theorem evPick_ok {c x y : Operand} (hc : constOk T o = true) (ho : o.op = .pick c x y) (h : evPick T st g o.type c x y k) : Yld E P st o g k := by
  unfold evPick at h
  obtain ⟨c', h, hc'⟩ := unc_ok h
  split at h
  · rename_i t
    obtain ⟨x', h, hx'⟩ := unc_ok h
    obtain ⟨y', h, hy'⟩ := unc_ok h
    split at h
    · obtain ⟨ht, hk⟩ := h
      subst ht
      refine ⟨_, _, _, hk, fun hg => .value fun B G w a hgd hN => ?_⟩
      have h1 := hc' hg _ _ _ _ (evV_ok (T := T) hgd (constOk.at hc (ty := 0) (x := c) (by simp [opcs, ho])) fun l hl => hN l (by simp [hl])).1
      have h3 := (evV_ok (T := T) hgd (constOk.at hc (ty := o.type) (x := y) (by simp [opcs, ho])) fun l hl => hN l (by simp [hl])).1
      generalize hcv : a.eval c = cv at h1
      cases h1
      exact ⟨a.eval y, by simp [execOp, ho, hcv, asBool], hy' (by simp [hg]) _ _ _ _ h3, trivial⟩
    refine ⟨_, _, _, h, fun hg => .value fun B G w a hgd hN => ?_⟩
    have h1 := hc' hg _ _ _ _ (evV_ok (T := T) hgd (constOk.at hc (ty := 0) (x := c) (by simp [opcs, ho])) fun l hl => hN l (by simp [hl])).1
    have h2 := (evV_ok (T := T) hgd (constOk.at hc (ty := o.type) (x := x) (by simp [opcs, ho])) fun l hl => hN l (by simp [hl])).1
    have h3 := (evV_ok (T := T) hgd (constOk.at hc (ty := o.type) (x := y) (by simp [opcs, ho])) fun l hl => hN l (by simp [hl])).1
    generalize hcv : a.eval c = cv at h1
    cases h1
    cases t with
    | true => exact ⟨a.eval x, by simp [execOp, ho, hcv, asBool], by rw [AV.sel_true]; exact hx' (by simp [hg]) _ _ _ _ h2, trivial⟩
    | false => exact ⟨a.eval y, by simp [execOp, ho, hcv, asBool], by rw [AV.sel_false]; exact hy' (by simp [hg]) _ _ _ _ h3, trivial⟩
  · exact h.elim
def kindEq (a b : IntKind) : Bool := a == b
def evInt (g : Bool) (op : BinOp) (ka kb : IntKind) (m n : Int) (k : AV → Prop) : Prop :=
  match op with
  | .shl => (g = true → 0 ≤ n ∧ n ≤ ka.bits) ∧ k (.int ka (ka.wrap (m * 2 ^ n.toNat)))
  | .shr => (g = true → (0 ≤ n ∧ n ≤ ka.bits) ∧ ka.wrap (m / 2 ^ n.toNat) = m / 2 ^ n.toNat) ∧ k (.int ka (m / 2 ^ n.toNat))
  | op => match kindEq ka kb with
    | false => False
    | true => match op with
      | .add => k (.int ka (ka.wrap (m + n)))
      | .sub => k (.int ka (ka.wrap (m - n)))
      | .mul => k (.int ka (ka.wrap (m * n)))
      | .quo => (g = true → (n == 0) = false) ∧ k (.int ka (ka.wrap (m.tdiv n)))
      | .rem => (g = true → (n == 0) = false ∧ ka.wrap (m.tmod n) = m.tmod n) ∧ k (.int ka (m.tmod n))
      | .and => k (.int ka (bits .and ka m n))
      | .or => k (.int ka (bits .or ka m n))
      | .xor => k (.int ka (bits .xor ka m n))
      | .andNot => k (.int ka (bits .andNot ka m n))
      | .eql => k (.bool (m == n))
      | .neq => k (.bool (m != n))
      | .lss => k (.bool (decide (m < n)))
      | .leq => k (.bool (decide (m ≤ n)))
      | .gtr => k (.bool (decide (m > n)))
      | .geq => k (.bool (decide (m ≥ n)))
      | _ => False
def evStr (g : Bool) (op : BinOp) (s t : Bytes) (k : AV → Prop) : Prop :=
  match op with
  | .add => (g = true → s.length + t.length ≤ maxLen) ∧ k (.str (s ++ t))
  | .eql => k (.bool (s == t))
  | .neq => k (.bool (!(s == t)))
  | .lss => k (.bool (Op.bytesLess s t))
  | .leq => k (.bool (Op.bytesLess s t || s == t))
  | .gtr => k (.bool (!(Op.bytesLess s t || s == t)))
  | .geq => k (.bool (!Op.bytesLess s t))
  | _ => False
theorem bits_wrap (op : BinOp) (ka : IntKind) (m n : Int) : ka.wrap (bits op ka m n) = bits op ka m n := by unfold bits; exact wrap_wrap _ _
theorem evInt_ok {g : Bool} {op : BinOp} {ka kb : IntKind} {m n : Int} {k : AV → Prop} (h : evInt g op ka kb m n k) (t : TypeId) (x y : Operand) :
    ∃ r, k r ∧ ∀ (hg : g = true) (w : World), ∃ v, (do eqGuard op t x y (.int ka m) (.int kb n); binOp op t (.int ka m) (.int kb n) : Sem Value).run P w = .ok v w ∧ ∀ (F : Nat → Nat → Prop) (ι : Nat → Option Nat), Rep F w ι v r := by
  unfold evInt at h
  split at h
  · obtain ⟨hc, h⟩ := h
    exact ⟨_, h, fun hg w => ⟨_, by obtain ⟨h0, h1⟩ := hc hg; simp [eqGuard_shl, binOp_shl, shift_shl _ _ _ _ h0 h1], fun F ι => .int _ _ _ (wrap_wrap _ _)⟩⟩
  · obtain ⟨hc, h⟩ := h
    exact ⟨_, h, fun hg w => ⟨_, by obtain ⟨⟨h0, h1⟩, h2⟩ := hc hg; simp [eqGuard_shr, binOp_shr, shift_shr _ _ _ _ h0 h1], fun F ι => .int _ _ _ (hc hg).2⟩⟩
  · rename_i op' _ _
    split at h
    · exact h.elim
    · rename_i hk
      have hk' : ka = kb := by simpa [kindEq] using hk
      subst hk'
      split at h
      · exact ⟨_, h, fun hg w => ⟨_, by simp [eqGuard_add, binOp_add, Op.intArith], fun F ι => .int _ _ _ (wrap_wrap _ _)⟩⟩
      · exact ⟨_, h, fun hg w => ⟨_, by simp [eqGuard_sub, binOp_sub, Op.intArith], fun F ι => .int _ _ _ (wrap_wrap _ _)⟩⟩
      · exact ⟨_, h, fun hg w => ⟨_, by simp [eqGuard_mul, binOp_mul, Op.intArith], fun F ι => .int _ _ _ (wrap_wrap _ _)⟩⟩
      · obtain ⟨hc, h⟩ := h
        exact ⟨_, h, fun hg w => ⟨_, by have h0' : ¬ n = 0 := by { have := hc hg; simpa using this }
                                        simp [eqGuard_quo, binOp_quo, Op.intDiv, h0'], fun F ι => .int _ _ _ (wrap_wrap _ _)⟩⟩
      · obtain ⟨hc, h⟩ := h
        exact ⟨_, h, fun hg w => ⟨_, by have h0' : ¬ n = 0 := by { have := (hc hg).1; simpa using this }
                                        simp [eqGuard_rem, binOp_rem, Op.intDiv, h0'], fun F ι => .int _ _ _ (hc hg).2⟩⟩
      · exact ⟨_, h, fun hg w => ⟨_, by simp [eqGuard_and, binOp_and, intBits_and], fun F ι => .int _ _ _ (bits_wrap ..)⟩⟩
      · exact ⟨_, h, fun hg w => ⟨_, by simp [eqGuard_or, binOp_or, intBits_or], fun F ι => .int _ _ _ (bits_wrap ..)⟩⟩
      · exact ⟨_, h, fun hg w => ⟨_, by simp [eqGuard_xor, binOp_xor, intBits_xor], fun F ι => .int _ _ _ (bits_wrap ..)⟩⟩
      · exact ⟨_, h, fun hg w => ⟨_, by simp [eqGuard_andNot, binOp_andNot, intBits_andNot], fun F ι => .int _ _ _ (bits_wrap ..)⟩⟩
      all_goals first
        | exact h.elim
        | exact ⟨_, h, fun hg w => ⟨_, by simp [eqGuard_at_int, binOp_eql, binOp_neq, binOp_lss, binOp_leq, binOp_gtr, binOp_geq]; try rfl, fun F ι => .bool ..⟩⟩
theorem evStr_ok {g : Bool} {op : BinOp} {s t : Bytes} {k : AV → Prop} (h : evStr g op s t k) (ty : TypeId) (x y : Operand) :
    ∃ r, k r ∧ ∀ (hg : g = true) (w : World), ∃ v, (do eqGuard op ty x y (.string ⟨s.toArray⟩) (.string ⟨t.toArray⟩); binOp op ty (.string ⟨s.toArray⟩) (.string ⟨t.toArray⟩) : Sem Value).run P w = .ok v w ∧ ∀ (F : Nat → Nat → Prop) (ι : Nat → Option Nat), Rep F w ι v r := by
  unfold evStr at h
  split at h
  · obtain ⟨hc, h⟩ := h
    refine ⟨_, h, fun hg w => ⟨.string ⟨(s ++ t).toArray⟩, ?_, fun F ι => .str _ _ (by have := hc hg; simpa using this)⟩⟩
    have h0 := hc hg
    have hs : ¬ (((⟨s.toArray⟩ : ByteArray).size + (⟨t.toArray⟩ : ByteArray).size : Nat) : Int) > IntKind.i64.max := by
      have h1 : (⟨s.toArray⟩ : ByteArray).size = s.length := by simp [ByteArray.size]
      have h2 : (⟨t.toArray⟩ : ByteArray).size = t.length := by simp [ByteArray.size]
      rw [h1, h2, IntKind.max_i64]; unfold maxLen at h0; omega
    have hap : (⟨s.toArray⟩ : ByteArray) ++ ⟨t.toArray⟩ = ⟨(s ++ t).toArray⟩ := by
      apply ByteArray.ext
      simp
    simp only [eqGuard_at_string, binOp_string_add, Op.stringOp, if_neg hs, hap]
    rfl
  all_goals first
    | exact h.elim
    | (refine ⟨_, h, fun hg w => ⟨_, ?_, fun F ι => .bool ..⟩⟩; simp [eqGuard_at_string, binOp_string_eql, binOp_string_neq, binOp, Op.stringOp, ByteArray.toList_mk]; try rfl)
def evEq (op : BinOp) (b : Bool) (k : AV → Prop) : Prop :=
  match op with
  | .eql => k (.bool b)
  | .neq => k (.bool (!b))
  | _ => False
def eqCells : List Nat → List AV → List AV → Option Bool
  | [], [], [] => some true
  | 0 :: ks, .str s :: xs, .str t :: ys => (eqCells ks xs ys).map fun r => (s == t) && r
  | 1 :: ks, .bool p :: xs, .bool q :: ys => (eqCells ks xs ys).map fun r => (p == q) && r
  | 2 :: ks, .int j m :: xs, .int k n :: ys => if kindEq j k then (eqCells ks xs ys).map fun r => (m == n) && r else none
  | _, _, _ => none
theorem eqFields_ok {F : Nat → Nat → Prop} {w w' : World} {ι : Nat → Option Nat} : ∀ (ks : List Nat) (xs ys : List AV) (b : Bool), eqCells ks xs ys = some b → ∀ (vs us : List Value), vs.length = xs.length → us.length = ys.length →
    (∀ (i : Nat) (v : Value) (c : AV), vs[i]? = some v → xs[i]? = some c → Rep F w ι v c) → (∀ (i : Nat) (v : Value) (c : AV), us[i]? = some v → ys[i]? = some c → Rep F w ι v c) →
    ∀ (fs : List Field) (off : Nat) (A B : Array Value), (∀ j, j < vs.length → A[off + j]? = vs[j]?) → (∀ j, j < us.length → B[off + j]? = us[j]?) → eqFld P ks fs off = true →
    (Op.eqFields 9999 A B fs).run P w' = .ok b w' := by
  intro ks xs ys
  fun_induction eqCells ks xs ys with
  | case1 =>
    intro b h vs us hv hu _ _ fs off A B _ _ hf
    cases fs with
    | nil => simp at h; subst h; simp [Op.eqFields]
    | cons _ _ => simp [eqFld] at hf
  | case5 => intro b h; cases h
  | case6 => intro b h; cases h
  | case2 ks s xs t ys ih =>
    intro b h vs us hv hu hrv hru fs off A B hA hB hf
    cases fs with
    | nil => simp [eqFld] at hf
    | cons f fs =>
    cases vs with
    | nil => simp at hv
    | cons v vs =>
    cases us with
    | nil => simp at hu
    | cons u us =>
    have h1 := hrv 0 v _ rfl rfl
    have h2 := hru 0 u _ rfl rfl
    have hA0 := hA 0 (by simp)
    have hB0 := hB 0 (by simp)
    simp only [Nat.add_zero, List.getElem?_cons_zero] at hA0 hB0
    cases h1; cases h2
    simp only [eqFld, Bool.and_eq_true, beq_iff_eq, bne_iff_ne] at hf
    obtain ⟨⟨⟨f1, f2⟩, f3⟩, f4⟩ := hf
    have hu' : P.underlying f.type = some .string := by split at f3 <;> simp_all
    simp only [Option.map_eq_some_iff] at h
    obtain ⟨c, hc, rfl⟩ := h
    have ih' := ih c hc vs us (by simpa using hv) (by simpa using hu) (fun i v c a1 a2 => hrv (i + 1) v c a1 a2) (fun i v c a1 a2 => hru (i + 1) v c a1 a2) fs (off + 1) A B (fun j hj => by
      have := hA (j + 1) (by simpa using hj)
      rw [show off + 1 + j = off + (j + 1) by omega, this]; rfl) (fun j hj => by
      have := hB (j + 1) (by simpa using hj)
      rw [show off + 1 + j = off + (j + 1) by omega, this]; rfl) f4
    have hag : ∀ w, (isAgg f.type).run P w = .ok false w := fun w => by simp [isAgg, run_underlying hu']
    simp only [Op.eqFields, if_pos f2, Sem.run_bind, part, hag, f1, hA0, hB0, Result.andThen_ok, Bool.false_eq_true, if_false, Sem.run_pure, run_equalIn_string _ _ _ _ _ hu', ByteArray.toList_mk]
    cases hst : (s == t) <;> simp_all
  | case3 ks p xs q ys ih =>
    intro b h vs us hv hu hrv hru fs off A B hA hB hf
    cases fs with
    | nil => simp [eqFld] at hf
    | cons f fs =>
    cases vs with
    | nil => simp at hv
    | cons v vs =>
    cases us with
    | nil => simp at hu
    | cons u us =>
    have h1 := hrv 0 v _ rfl rfl
    have h2 := hru 0 u _ rfl rfl
    have hA0 := hA 0 (by simp)
    have hB0 := hB 0 (by simp)
    simp only [Nat.add_zero, List.getElem?_cons_zero] at hA0 hB0
    cases h1; cases h2
    simp only [eqFld, Bool.and_eq_true, beq_iff_eq, bne_iff_ne] at hf
    obtain ⟨⟨⟨f1, f2⟩, f3⟩, f4⟩ := hf
    have hu' : P.underlying f.type = some .bool := by split at f3 <;> simp_all
    simp only [Option.map_eq_some_iff] at h
    obtain ⟨c, hc, rfl⟩ := h
    have ih' := ih c hc vs us (by simpa using hv) (by simpa using hu) (fun i v c a1 a2 => hrv (i + 1) v c a1 a2) (fun i v c a1 a2 => hru (i + 1) v c a1 a2) fs (off + 1) A B (fun j hj => by
      have := hA (j + 1) (by simpa using hj)
      rw [show off + 1 + j = off + (j + 1) by omega, this]; rfl) (fun j hj => by
      have := hB (j + 1) (by simpa using hj)
      rw [show off + 1 + j = off + (j + 1) by omega, this]; rfl) f4
    have hag : ∀ w, (isAgg f.type).run P w = .ok false w := fun w => by simp [isAgg, run_underlying hu']
    simp only [Op.eqFields, if_pos f2, Sem.run_bind, part, hag, f1, hA0, hB0, Result.andThen_ok, Bool.false_eq_true, if_false, Sem.run_pure, run_equalIn_bool' _ _ _ _ _ hu']
    cases hst : (p == q) <;> simp_all
  | case4 ks j m xs k n ys hk ih =>
    intro b h vs us hv hu hrv hru fs off A B hA hB hf
    cases fs with
    | nil => simp [eqFld] at hf
    | cons f fs =>
    cases vs with
    | nil => simp at hv
    | cons v vs =>
    cases us with
    | nil => simp at hu
    | cons u us =>
    have h1 := hrv 0 v _ rfl rfl
    have h2 := hru 0 u _ rfl rfl
    have hA0 := hA 0 (by simp)
    have hB0 := hB 0 (by simp)
    simp only [Nat.add_zero, List.getElem?_cons_zero] at hA0 hB0
    have hjk : j = k := by simpa [kindEq] using hk
    subst hjk
    cases h1; cases h2
    simp only [eqFld, Bool.and_eq_true, beq_iff_eq, bne_iff_ne] at hf
    obtain ⟨⟨⟨f1, f2⟩, f3⟩, f4⟩ := hf
    obtain ⟨kk, hu'⟩ : ∃ kk, P.underlying f.type = some (.int kk) := by
      split at f3 <;> simp_all
    simp only [Option.map_eq_some_iff] at h
    obtain ⟨c, hc, rfl⟩ := h
    have ih' := ih c hc vs us (by simpa using hv) (by simpa using hu) (fun i v c a1 a2 => hrv (i + 1) v c a1 a2) (fun i v c a1 a2 => hru (i + 1) v c a1 a2) fs (off + 1) A B (fun j hj => by
      have := hA (j + 1) (by simpa using hj)
      rw [show off + 1 + j = off + (j + 1) by omega, this]; rfl) (fun j hj => by
      have := hB (j + 1) (by simpa using hj)
      rw [show off + 1 + j = off + (j + 1) by omega, this]; rfl) f4
    have hag : ∀ w, (isAgg f.type).run P w = .ok false w := fun w => by simp [isAgg, run_underlying hu']
    simp only [Op.eqFields, if_pos f2, Sem.run_bind, part, hag, f1, hA0, hB0, Result.andThen_ok, Bool.false_eq_true, if_false, Sem.run_pure, run_equalIn_int _ _ _ _ _ _ _ hu']
    cases hst : (m == n) <;> simp_all
def evBin (T : Tab) (st : St) (g : Bool) (op : BinOp) (ty : TypeId) (x y : Operand) (k : AV → Option Nat → List Loc → Prop) : Prop :=
  unc g (evV T st ty x) fun a => unc g (evV T st ty y) fun b => match a, b with
    | .int ka m, .int kb n => evInt g op ka kb m n fun r => k r none (opN x ++ opN y)
    | .str s, .str t => evStr g op s t fun r => k r none (opN x ++ opN y)
    | .bool p, .bool q => (T.at ty).any (fun ti => ti.desc matches .bool) = true ∧ evEq op (p == q) fun r => k r none (opN x ++ opN y)
    | .agg xs, .agg ys => match T.at ty with
      | none => False
      | some ti => match eqCells ti.eqk xs ys with
        | none => False
        | some b => ti.eqk.isEmpty = false ∧ evEq op b fun r => k r none (opN x ++ opN y)
    | _, _ => False
theorem evEq_ok {op : BinOp} {b : Bool} {k : AV → Prop} (h : evEq op b k) : (op = .eql ∧ k (.bool b)) ∨ (op = .neq ∧ k (.bool (!b))) := by
  unfold evEq at h
  split at h
  · exact .inl ⟨rfl, h⟩
  · exact .inr ⟨rfl, h⟩
  · exact h.elim
theorem evBin_ok (hT : TOk P T) {op : BinOp} {ty yt : TypeId} {x y : Operand} (hc : constOk T o = true) (ho : o.op = .binOp op ty x y yt) (h : evBin T st g op ty x y k) : Yld E P st o g k := by
  unfold evBin at h
  obtain ⟨a', h, ha'⟩ := unc_ok h
  obtain ⟨b', h, hb'⟩ := unc_ok h
  have key : ∀ (B : Base) (G : Gh) (w : World) (a : Act), Good E B G w → (∀ l, l ∈ opN x ++ opN y → RepL G w a l st) → g = true → Rep G.F w G.ι (a.eval x) a' ∧ Rep G.F w G.ι (a.eval y) b' := fun B G w a hgd hN hg =>
    ⟨ha' hg _ _ _ _ (evV_ok (T := T) hgd (constOk.at hc (ty := ty) (x := x) (by simp [opcs, ho])) fun l hl => hN l (mem2.1 hl)).1,
     hb' hg _ _ _ _ (evV_ok (T := T) hgd (constOk.at hc (ty := ty) (x := y) (by simp [opcs, ho])) fun l hl => hN l (mem2.2 hl)).1⟩
  have hrun : ∀ (a : Act) (w : World) (v : Value), (do eqGuard op ty x y (a.eval x) (a.eval y); binOp op ty (a.eval x) (a.eval y) : Sem Value).run P w = .ok v w → (execOp a.eval o).run P w = .ok (.value v) w := by
    intro a w v hv
    simp only [execOp, ho, Sem.run_bind] at hv ⊢
    generalize (eqGuard op ty x y (a.eval x) (a.eval y)).run P w = r at hv ⊢
    cases r with
    | ok u w' =>
      simp only [Result.andThen_ok] at hv ⊢
      rw [hv]; rfl
    | halt _ _ => simp [Result.andThen] at hv
  split at h
  · obtain ⟨r, h, hr⟩ := evInt_ok h ty x y
    refine ⟨r, none, _, h, fun hg => .value fun B G w a hgd hN => ?_⟩
    obtain ⟨h1, h2⟩ := key B G w a hgd hN hg
    obtain ⟨v, hv, hrep⟩ := hr hg w
    refine ⟨v, hrun a w v ?_, hrep _ _, trivial⟩
    generalize a.eval x = vx at *
    generalize a.eval y = vy at *
    cases h1; cases h2; exact hv
  · obtain ⟨r, h, hr⟩ := evStr_ok h ty x y
    refine ⟨r, none, _, h, fun hg => .value fun B G w a hgd hN => ?_⟩
    obtain ⟨h1, h2⟩ := key B G w a hgd hN hg
    obtain ⟨v, hv, hrep⟩ := hr hg w
    refine ⟨v, hrun a w v ?_, hrep _ _, trivial⟩
    generalize a.eval x = vx at *
    generalize a.eval y = vy at *
    cases h1; cases h2; exact hv
  · rename_i p q
    obtain ⟨ht, h⟩ := h
    obtain ⟨ti, hti, hd⟩ : ∃ ti, T.at ty = some ti ∧ ti.desc = .bool := by
      cases hx : T.at ty with
      | none => rw [hx] at ht; cases ht
      | some ti =>
        rw [hx] at ht
        refine ⟨ti, rfl, ?_⟩
        simp only [Option.any_some] at ht
        split at ht
        · assumption
        · cases ht
    have hu := (hT _ _ hti).under
    rw [hd] at hu
    rcases evEq_ok h with ⟨rfl, h⟩ | ⟨rfl, h⟩
    all_goals
      refine ⟨_, none, _, h, fun hg => .value fun B G w a hgd hN => ?_⟩
      obtain ⟨h1, h2⟩ := key B G w a hgd hN hg
      have hr := hrun a w
      generalize a.eval x = vx at *
      generalize a.eval y = vy at *
      cases h1; cases h2
      refine ⟨_, hr _ ?_, .bool .., trivial⟩
      simp [eqGuard_at_bool, binOp, Op.equal, Op.maxDepth, run_equalIn_bool' _ _ _ _ _ hu]
  · rename_i xs ys
    split at h
    · exact h.elim
    · rename_i ti hti
      split at h
      · exact h.elim
      · rename_i b hb
        obtain ⟨hne, h⟩ := h
        have hf := hT _ _ hti
        have heq := hf.eqs
        rw [hne] at heq
        simp only [Bool.false_or, eqTyOk, Bool.and_eq_true, Bool.not_eq_true'] at heq
        obtain ⟨⟨h1, h2⟩, h3⟩ := heq
        obtain ⟨fs, hfs, hfl⟩ : ∃ fs, P.underlying ty = some (.struct fs) ∧ eqFld P ti.eqk fs.toList 0 = true := by
          split at h1
          · rename_i fs hh; exact ⟨fs, hh, h1⟩
          · cases h1
        have hfo : P.fieldsOf ty = fs := by simp [Program.fieldsOf, hfs]
        have hrunE : ∀ (B : Base) (G : Gh) (w : World) (a : Act), Good E B G w → (∀ l, l ∈ opN x ++ opN y → RepL G w a l st) → g = true → ∃ vs us, a.eval x = .agg vs ∧ a.eval y = .agg us ∧ (Op.equalIn 10000 ty (.agg vs) (.agg us)).run P w = .ok b w := by
          intro B G w a hgd hN hg
          obtain ⟨r1, r2⟩ := key B G w a hgd hN hg
          generalize a.eval x = vx at *
          generalize a.eval y = vy at *
          cases r1 with
          | agg _ vs _ hl _ hr =>
          cases r2 with
          | agg _ us _ hl' _ hr' =>
          refine ⟨_, _, rfl, rfl, ?_⟩
          rw [run_equalIn_agg _ _ _ _ _ (by rw [hfo]; exact hfs) h2, hfo]
          exact eqFields_ok _ _ _ _ hb vs us hl hl' hr hr' _ 0 _ _ (fun j hj => by simp) (fun j hj => by simp) hfl
        rcases evEq_ok h with ⟨rfl, h⟩ | ⟨rfl, h⟩
        all_goals
          refine ⟨_, none, _, h, fun hg => .value fun B G w a hgd hN => ?_⟩
          obtain ⟨vs, us, e1, e2, e3⟩ := hrunE B G w a hgd hN hg
          refine ⟨_, hrun a w _ ?_, .bool .., trivial⟩
          rw [e1, e2]
          simp only [Sem.run_bind, run_eqGuard_agg _ _ _ _ _ _ _ h3, Result.andThen_ok, run_eql_struct, run_neq_struct, e3]
  · exact h.elim
def evUn (T : Tab) (st : St) (g : Bool) (op : UnOp) (ty : TypeId) (x : Operand) (k : AV → Option Nat → List Loc → Prop) : Prop :=
  unc g (evV T st ty x) fun a => match op, a with
    | .not, .bool b => k (.bool (!b)) none (opN x)
    | .neg, .int ka n => k (.int ka (ka.wrap (0 - n))) none (opN x)
    | _, _ => False
theorem evUn_ok {op : UnOp} {ty : TypeId} {x : Operand} (hc : constOk T o = true) (ho : o.op = .unOp op ty x) (h : evUn T st g op ty x k) : Yld E P st o g k := by
  unfold evUn at h
  obtain ⟨a', h, ha'⟩ := unc_ok h
  split at h
  all_goals first
    | exact h.elim
    | (refine ⟨_, none, _, h, fun hg => .value fun B G w a hgd hN => ?_⟩
       have h1 := ha' hg _ _ _ _ (evV_ok (T := T) hgd (constOk.at hc (ty := ty) (x := x) (by simp [opcs, ho])) hN).1
       generalize hv : a.eval x = vx at *
       cases h1
       refine ⟨_, by simp only [execOp, ho, hv, Op.unary]; rfl, ?_, trivial⟩
       first | exact .bool .. | exact .int _ _ _ (wrap_wrap _ _))
end
end Go.Pm
namespace Go.Pm
open Go Go.RowKit
set_option linter.unusedVariables false
set_option linter.unusedSimpArgs false
def byteAV (b : UInt8) : AV := .int .u8 (b.toNat : Int)
theorem Rep.list_inv {F : Nat → Nat → Prop} {w : World} {ι : Nat → Option Nat} {v : Value} {sz : Nat} {xs : List AV} (h : Rep F w ι v (.list sz xs)) :
    ∃ ad n cap, v = .slice ad n cap ∧ n = xs.length ∧ n ≤ cap ∧ cap ≤ maxLen ∧ (∀ e, e ∈ xs → e.cells.length = sz) ∧
      (xs = [] ∨ ∃ (b o : Nat) (vals : Nat → Nat → Value), ad = some ⟨b, o, none⟩ ∧ (∀ j, j < xs.length * sz → F b (o + j)) ∧
        (∀ (i : Nat) (e : AV) (j : Nat) (c : AV), xs[i]? = some e → e.cells[j]? = some c → w.cell? ⟨b, o + (i * sz + j), none⟩ = some (vals i j) ∧ (vals i j).oneCell' = true) ∧
        (∀ (i : Nat) (e : AV) (j : Nat) (c : AV), xs[i]? = some e → e.cells[j]? = some c → Rep F w (fun _ => none) (vals i j) c)) := by
  cases h with
  | empty _ a cap sz h => exact ⟨a, 0, cap, rfl, rfl, Nat.zero_le _, h, by simp, .inl rfl⟩
  | list _ b o n cap sz xs vals hn hc hm hsz hF hv hr => exact ⟨_, n, cap, rfl, hn, hc, hm, hsz, .inr ⟨b, o, vals, rfl, hF, hv, hr⟩⟩
def optE {α : Type} (o : Option α) (k : α → Prop) : Prop :=
  match o with
  | some c => k c
  | none => False
theorem optE_ok {α : Type} {o : Option α} {k : α → Prop} (h : optE o k) : ∃ c, o = some c ∧ k c := by
  unfold optE at h
  split at h
  · exact ⟨_, rfl, h⟩
  · exact h.elim
theorem optE.mk {α : Type} {o : Option α} {k : α → Prop} {c : α} (h : o = some c) (hk : k c) : optE o k := by rw [h]; exact hk
section
variable {E : Env} {P : Program} {T : Tab} {st : St} {o : Oper} {g : Bool} {k : AV → Option Nat → List Loc → Prop}
theorem add_plain (b o n : Nat) : (⟨b, o, none⟩ : Addr).add n = ⟨b, o + n, none⟩ := by
  unfold Addr.add
  split
  · subst_vars; rfl
  · rfl
def evConv (T : Tab) (st : St) (g : Bool) (src dst : TypeId) (x : Operand) (k : AV → Option Nat → List Loc → Prop) : Prop :=
  unc g (evV T st src x) fun a => match T.at src, T.at dst with
    | some si, some di => match di.desc, a with
      | .int kd, .int _ n => k (.int kd (kd.wrap n)) none (opN x)
      | .string, .str s => k (.str s) none (opN x)
      | .string, .list _ xs => si.esz = 1 ∧ (match si.desc with | .slice e => (T.at e).any (fun ti => ti.desc matches .int .u8) = true | _ => False) ∧ ∃ s : Bytes, xs = s.map byteAV ∧ k (.str s) none (opN x)
      | .string, .row id off len => (match si.desc with | .slice e => (T.at e).any (fun ti => ti.desc matches .int .u8) = true | _ => False) ∧ optE st.H[id]? fun ob => match ob with
          | .cells _ cs _ => ∃ s : Bytes, (off + len ≤ cs.length ∧ (cs.drop off).take len = s.map byteAV) ∧ k (.str s) none (opN x ++ [.obj id])
          | _ => False
      | _, _ => False
    | _, _ => False
theorem u8_of {ti : Option TI} (h : ti.any (fun ti => ti.desc matches .int .u8) = true) : ∃ i, ti = some i ∧ i.desc = .int .u8 := by
  cases ti with
  | none => cases h
  | some i =>
    refine ⟨i, rfl, ?_⟩
    simp only [Option.any_some] at h
    split at h
    · assumption
    · cases h
theorem byte_back (s : Bytes) : (s.map (fun b : UInt8 => (b.toNat : Int))).map (fun n => UInt8.ofNat n.toNat) = s := by
  simp [List.map_map, Function.comp_def]
theorem evConv_ok (hT : TOk P T) {src dst : TypeId} {x : Operand} (hc : constOk T o = true) (ho : o.op = .convert src dst x) (h : evConv T st g src dst x k) : Yld E P st o g k := by
  unfold evConv at h
  obtain ⟨a', h, ha'⟩ := unc_ok h
  split at h
  · rename_i si di hsi hdi
    have hus := (hT _ _ hsi).under
    have hud := (hT _ _ hdi).under
    have key : ∀ (B : Base) (G : Gh) (w : World) (a : Act), Good E B G w → (∀ l, l ∈ opN x → RepL G w a l st) → g = true → Rep G.F w G.ι (a.eval x) a' := fun B G w a hgd hN hg =>
      ha' hg _ _ _ _ (evV_ok (T := T) hgd (constOk.at hc (ty := src) (x := x) (by simp [opcs, ho])) hN).1
    split at h
    · rename_i kd _ n hd
      rw [hd] at hud
      refine ⟨_, none, _, h, fun hg => .value fun B G w a hgd hN => ?_⟩
      have h1 := key B G w a hgd hN hg
      generalize hv : a.eval x = vx at *
      cases h1
      exact ⟨_, by simp only [execOp, ho, hv, Sem.run_bind, convert, run_underlying hus, run_underlying hud, Result.andThen_ok, Conv.intToInt, Sem.run_pure], .int _ _ _ (wrap_wrap _ _), trivial⟩
    · rename_i s hd
      rw [hd] at hud
      refine ⟨_, none, _, h, fun hg => .value fun B G w a hgd hN => ?_⟩
      have h1 := key B G w a hgd hN hg
      have h2 := h1
      generalize hv : a.eval x = vx at *
      cases h1
      exact ⟨_, by simp only [execOp, ho, hv, Sem.run_bind, convert, run_underlying hus, run_underlying hud, Result.andThen_ok, Sem.run_pure], h2, trivial⟩
    · rename_i sz xs hd
      obtain ⟨hesz, hel, s, hxs, h⟩ := h
      rw [hd] at hud
      split at hel
      · rename_i e he
        obtain ⟨ei, hei, hed⟩ := u8_of hel
        have hue := (hT _ _ hei).under
        rw [hed] at hue
        rw [he] at hus
        refine ⟨_, none, _, h, fun hg => .value fun B G w a hgd hN => ?_⟩
        have h1 := key B G w a hgd hN hg
        obtain ⟨ad, n, cap, hv, hn, hc', hm, hsz, hrow⟩ := h1.list_inv
        have hl : s.length ≤ maxLen := by rw [hxs] at hn; simp at hn; omega
        refine ⟨.string ⟨s.toArray⟩, ?_, .str _ _ hl, trivial⟩
        simp only [execOp, ho, hv, Sem.run_bind]
        have hrun : (convert src dst (.slice ad n cap)).run P w = .ok (.string ⟨s.toArray⟩) w := by
          rcases hrow with h0 | ⟨b, off, vals, hb, _, hcell, hrep⟩
          · have hs0 : s = [] := by rw [hxs] at h0; simpa using h0
            subst hs0
            rw [hxs] at hn
            simp at hn
            subst hn
            cases ad with
            | none => exact run_convert_bytes_nil (P := P) w src e hus hue 0 cap dst hud
            | some a0 =>
              rw [run_convert_bytes_string w src dst e _ 0 cap hus hue hud]
              have := run_bytesToString (P := P) w a0 0 cap [] (by simp [loadCells, loadCellsFrom])
              rw [this]; rfl
          · subst hb
            have := run_convert_bytes_arg (P := P) w src e hus hue b off n cap (s.map fun b => (b.toNat : Int)) (by rw [hn, hxs]; simp) (fun i hi => by
              have hi' : i < s.length := by rw [hn, hxs] at hi; simpa using hi
              have hxi : xs[i]? = some (byteAV s[i]) := by rw [hxs]; simp [List.getElem?_eq_getElem hi']
              obtain ⟨h2, _⟩ := hcell i _ 0 _ hxi (by simp [AV.cells, byteAV]; rfl)
              have h3 := hrep i _ 0 _ hxi (by simp [AV.cells, byteAV]; rfl)
              have hsz1 : sz = 1 := by
                have := hsz _ (List.mem_of_getElem? hxi)
                simpa [AV.cells, byteAV] using this.symm
              subst hsz1
              simp only [Nat.mul_one, Nat.add_zero] at h2
              rw [h2]
              generalize vals i 0 = u at h3
              cases h3
              simp [List.getD, hi']) dst hud
            rw [this]
            simp only [strOfNums, byte_back]
        rw [hrun]
        rfl
      · exact hel.elim
    · rename_i id off len hd
      obtain ⟨hel, h⟩ := h
      rw [hd] at hud
      split at hel
      · rename_i e he
        obtain ⟨ei, hei, hed⟩ := u8_of hel
        have hue := (hT _ _ hei).under
        rw [hed] at hue
        rw [he] at hus
        obtain ⟨ob, hob, h⟩ := optE_ok h
        split at h
        · rename_i t cs tg
          obtain ⟨s, ⟨hlen, hs⟩, h⟩ := h
          refine ⟨_, none, _, h, fun hg => .value fun B G w a hgd hN => ?_⟩
          have h1 := key B G w a hgd (fun l hl => hN l (List.mem_append_left _ hl)) hg
          have h2 := hN (.obj id) (by simp)
          simp only [RepL, hob, RepObj] at h2
          generalize hv : a.eval x = vx at *
          cases h1 with
          | row0 _ _ _ cap a0 hm =>
            have hs0 : s = [] := by simpa using hs.symm
            subst hs0
            refine ⟨.string ⟨([] : Bytes).toArray⟩, ?_, .str _ _ (by simp), trivial⟩
            simp only [execOp, ho, hv, Sem.run_bind]
            cases a0 with
            | none => rw [run_convert_bytes_nil (P := P) w src e hus hue 0 cap dst hud]; rfl
            | some a1 =>
              rw [run_convert_bytes_string w src dst e _ 0 cap hus hue hud, run_bytesToString (P := P) w a1 0 cap [] (by simp [loadCells, loadCellsFrom])]
              rfl
          | row _ _ _ _ cap g' hι hcap hm =>
          rcases h2 with h2 | ⟨gg, i1, i2, i3, vals, fz, i4, i5, i6, i7⟩
          · subst h2
            have hl0 : len = 0 := by simp at hlen; omega
            subst hl0
            have hs0 : s = [] := by simpa using hs.symm
            subst hs0
            refine ⟨.string ⟨([] : Bytes).toArray⟩, ?_, .str _ _ (by simp), trivial⟩
            simp only [execOp, ho, hv, Sem.run_bind]
            rw [run_convert_bytes_string w src dst e _ 0 cap hus hue hud, run_bytesToString (P := P) w _ 0 cap [] (by simp [loadCells, loadCellsFrom])]
            rfl
          rw [i1] at hι
          injection hι with hι
          subst hι
          have hsl : s.length = len := by
            have := congrArg List.length hs
            simp at this; omega
          refine ⟨.string ⟨s.toArray⟩, ?_, .str _ _ (by omega), trivial⟩
          simp only [execOp, ho, hv, Sem.run_bind]
          have := run_convert_bytes_arg (P := P) w src e hus hue gg off len cap (s.map fun b => (b.toNat : Int)) (by simpa using hsl) (fun i hi => by
            have hi' : i < s.length := by omega
            have hc2 : cs[off + i]? = some (byteAV s[i]) := by
              have := congrArg (fun l => l[i]?) hs
              simpa [List.getElem?_take, List.getElem?_drop, hi, hi'] using this
            obtain ⟨v, v1, v2, v3⟩ := i7 _ _ hc2
            have v4 := v3.1
            cases v4
            simp [World.cell?, i4, v1, List.getD, hi']) dst hud
          rw [this]
          simp only [strOfNums, byte_back]
          rfl
        · exact h.elim
      · exact hel.elim
    · exact h.elim
  · exact h.elim
def evLen (T : Tab) (st : St) (g : Bool) (ty : TypeId) (x : Operand) (k : AV → Option Nat → List Loc → Prop) : Prop :=
  unc g (evV T st ty x) fun a => match T.at ty with
    | none => False
    | some ti => match ti.desc, a with
      | .string, .str s => k (.int .i64 (s.length : Int)) none (opN x)
      | .slice _, .list _ xs => k (.int .i64 (xs.length : Int)) none (opN x)
      | .slice _, .row _ _ n => k (.int .i64 (n : Int)) none (opN x)
      | _, _ => False
theorem i64_len {n : Nat} (h : n ≤ maxLen) : IntKind.i64.wrap (n : Int) = n := by
  unfold maxLen at h
  exact IntWalk.i64_in _ (by omega)
theorem run_builtin {P : Program} {o : Oper} {b : Builtin} {args : Array Operand} {tys : Array TypeId} (ho : o.op = .call { callee := .builtin b, args := args, argTypes := tys }) (a : Act) (w : World) :
    (execOp a.eval o).run P w = (builtin b tys o.type (args.map fun | .const _ => true | _ => false) (args.map a.eval)).run P w := by
  simp only [execOp, ho, resolve, Sem.run_bind, Sem.run_pure, Result.andThen_ok, invoke]
  rfl
theorem evLen_ok (hT : TOk P T) {ty : TypeId} {x : Operand} (hc : constOk T o = true) (ho : o.op = .call { callee := .builtin .len, args := #[x], argTypes := #[ty] }) (h : evLen T st g ty x k) : Yld E P st o g k := by
  unfold evLen at h
  obtain ⟨a', h, ha'⟩ := unc_ok h
  split at h
  · exact h.elim
  · rename_i ti hti
    have hu := (hT _ _ hti).under
    split at h
    all_goals first
      | exact h.elim
      | (rename_i hd
         rw [hd] at hu
         refine ⟨_, none, _, h, fun hg => .value fun B G w a hgd hN => ?_⟩
         have h1 := ha' hg _ _ _ _ (evV_ok (T := T) hgd (constOk.at hc (ty := ty) (x := x) (by simp [opcs, ho])) hN).1
         rw [run_builtin ho]
         have he : (#[x] : Array Operand).map a.eval = #[a.eval x] := by simp
         rw [he]
         generalize hv : a.eval x = vx at *)
    · cases h1 with
      | str _ _ hl =>
      exact ⟨_, by simp only [builtin, Sem.run_bind, run_len_string w ty o.type _ hu, Result.andThen_ok, Sem.run_pure]; simp only [goInt, ByteArray.size, List.size_toArray], .int _ _ _ (i64_len hl), trivial⟩
    · obtain ⟨ad, n, cap, hv', hn, hc', hm, _, _⟩ := h1.list_inv
      subst hv'
      have hu' : P.underlying ty = some (.slice (P.elem ty)) := by simp [Program.elem, hu]
      refine ⟨_, by simp only [builtin, Sem.run_bind, run_len_slice w ty o.type _ _ _ hu', Result.andThen_ok, Sem.run_pure, goInt]; rfl, ?_, trivial⟩
      rw [hn]; exact .int _ _ _ (i64_len (by omega))
    · cases h1 with
      | row0 _ _ _ cap a0 hm =>
        have hu' : P.underlying ty = some (.slice (P.elem ty)) := by simp [Program.elem, hu]
        exact ⟨_, by simp only [builtin, Sem.run_bind, run_len_slice w ty o.type _ _ _ hu', Result.andThen_ok, Sem.run_pure, goInt], .int _ _ _ (i64_len (by omega)), trivial⟩
      | row _ _ _ _ cap g' hι hcap hm =>
      have hu' : P.underlying ty = some (.slice (P.elem ty)) := by simp [Program.elem, hu]
      exact ⟨_, by simp only [builtin, Sem.run_bind, run_len_slice w ty o.type _ _ _ hu', Result.andThen_ok, Sem.run_pure, goInt], .int _ _ _ (i64_len (by omega)), trivial⟩
def evMinMax (T : Tab) (st : St) (g : Bool) (mx : Bool) (tx ty : TypeId) (x y : Operand) (k : AV → Option Nat → List Loc → Prop) : Prop :=
  unc g (evV T st tx x) fun a => unc g (evV T st ty y) fun b => match a, b with
    | .int ka m, .int kb n => kindEq ka kb = true ∧ k (.int ka (bif mx then (if n > m then n else m) else (if n < m then n else m))) none (opN x ++ opN y)
    | _, _ => False
theorem evMinMax_ok {tx ty : TypeId} {x y : Operand} {mx : Bool} (hc : constOk T o = true) (ho : o.op = .call { callee := .builtin (bif mx then .max else .min), args := #[x, y], argTypes := #[tx, ty] })
    (h : evMinMax T st g mx tx ty x y k) : Yld E P st o g k := by
  unfold evMinMax at h
  obtain ⟨a', h, ha'⟩ := unc_ok h
  obtain ⟨b', h, hb'⟩ := unc_ok h
  split at h
  · obtain ⟨hk, h⟩ := h
    refine ⟨_, none, _, h, fun hg => .value fun B G w a hgd hN => ?_⟩
    have h1 := ha' hg _ _ _ _ (evV_ok (T := T) hgd (constOk.at hc (ty := tx) (x := x) (by simp [opcs, ho])) fun l hl => hN l (mem2.1 hl)).1
    have h2 := hb' hg _ _ _ _ (evV_ok (T := T) hgd (constOk.at hc (ty := ty) (x := y) (by simp [opcs, ho])) fun l hl => hN l (mem2.2 hl)).1
    have hk' := (by simpa [kindEq] using hk : _ = _)
    subst hk'
    rw [run_builtin ho]
    have he : (#[x, y] : Array Operand).map a.eval = #[a.eval x, a.eval y] := by simp
    rw [he]
    generalize a.eval x = vx at *
    generalize a.eval y = vy at *
    cases h1 with | int _ _ _ w1 => cases h2 with | int _ _ _ w2 =>
    cases mx with
    | true =>
      refine ⟨_, by simp [builtin, Builtin.max_, Builtin.max2]; rfl, ?_, trivial⟩
      simp only [cond_true]
      refine .int _ _ _ ?_
      split <;> assumption
    | false =>
      refine ⟨_, by simp [builtin, Builtin.min_, Builtin.min2]; rfl, ?_, trivial⟩
      simp only [cond_false]
      refine .int _ _ _ ?_
      split <;> assumption
  · exact h.elim
end
end Go.Pm
namespace Go.Pm
open Go Go.RowKit
set_option linter.unusedVariables false
set_option linter.unusedSimpArgs false
section
variable {E : Env} {P : Program} {T : Tab} {st : St} {o : Oper} {g : Bool} {k : AV → Option Nat → List Loc → Prop}
def bndE (T : Tab) (st : St) (g : Bool) (x : Option Operand) (none_ : Int) (k : Int → Prop) : Prop :=
  match x with
  | none => k none_
  | some x => unc g (evV T st 0 x) fun a => match a with
    | .int _ n => k n
    | _ => False
def bndN : Option Operand → List Loc
  | none => []
  | some x => opN x
theorem bndE_ok {x : Option Operand} {d : Int} {k : Int → Prop} (h : bndE T st g x d k) : ∃ n, k n ∧ (g = true → ∀ (B : Base) (G : Gh) (w : World) (a : Act), Good E B G w → (∀ l, l ∈ bndN x → RepL G w a l st) → (∀ y, x = some y → cOk T 0 y = true) →
    (x = none ∧ n = d) ∨ ∃ y kd, x = some y ∧ a.eval y = .int kd n) := by
  unfold bndE at h
  split at h
  · exact ⟨d, h, fun _ B G w a _ _ _ => .inl ⟨rfl, rfl⟩⟩
  · rename_i x
    obtain ⟨a', h, ha'⟩ := unc_ok h
    split at h
    · rename_i kd n
      refine ⟨n, h, fun hg B G w a hgd hN hc => .inr ⟨x, kd, rfl, ?_⟩⟩
      have h1 := ha' hg _ _ _ _ (evV_ok (T := T) (ty := 0) hgd (hc x rfl) hN).1
      generalize a.eval x = v at *
      cases h1; rfl
    · exact h.elim
def evSlice (T : Tab) (st : St) (g : Bool) (ty : TypeId) (x : Operand) (lo hi : Option Operand) (k : AV → Option Nat → List Loc → Prop) : Prop :=
  unc g (evV T st ty x) fun a => match T.at ty with
    | none => False
    | some ti => match ti.desc, a with
      | .string, .str s => bndE T st g lo 0 fun l => bndE T st g hi (s.length : Int) fun h => (g = true → 0 ≤ l ∧ l ≤ h ∧ h ≤ (s.length : Int)) ∧
          k (.str ((s.drop l.toNat).take (h.toNat - l.toNat))) none (opN x ++ (bndN lo ++ bndN hi))
      | .slice _, .list sz xs => bndE T st g lo 0 fun l => bndE T st g hi (xs.length : Int) fun h => ((g = true → 0 ≤ l ∧ l ≤ h ∧ h ≤ (xs.length : Int)) ∧ sz = ti.esz) ∧
          k (.list sz ((xs.drop l.toNat).take (h.toNat - l.toNat))) none (opN x ++ (bndN lo ++ bndN hi))
      | .slice _, .row id off len => bndE T st g lo 0 fun l => bndE T st g hi (len : Int) fun h => (g = true → 0 ≤ l ∧ l < h ∧ h ≤ (len : Int)) ∧
          k (.row id (off + l.toNat * ti.esz) (h.toNat - l.toNat)) none (opN x ++ (bndN lo ++ bndN hi))
      | .array n _, .ptr id off => bndE T st g lo 0 fun l => bndE T st g hi (n : Int) fun h => ((g = true → 0 ≤ l ∧ l < h ∧ h ≤ (n : Int)) ∧ n ≤ 65536) ∧
          k (.row id (off + l.toNat * ti.esz) (h.toNat - l.toNat)) none (opN x ++ (bndN lo ++ bndN hi))
      | _, _ => False
theorem run_bounds (w : World) (isS : Bool) (len cap : Nat) (vl vh : Option Value) (l h : Int) (hl : (vl = none ∧ l = 0) ∨ ∃ k, vl = some (.int k l)) (hh : (vh = none ∧ h = len) ∨ ∃ k, vh = some (.int k h))
    (h0 : 0 ≤ l) (h1 : l ≤ h) (h2 : h ≤ cap) : (Instr.sliceBounds isS len cap vl vh none).run P w = .ok (l.toNat, h.toNat, cap) w := by
  have eh : (h.toNat : Int) = h := Int.toNat_of_nonneg (by omega)
  rcases hl with ⟨rfl, rfl⟩ | ⟨kl, rfl⟩ <;> rcases hh with ⟨rfl, rfl⟩ | ⟨kh, rfl⟩
  · simp [Instr.sliceBounds]
  · simp [Instr.sliceBounds, run_sliceBound, show (0 : Int) ≤ h by omega, h2]
  · simp [Instr.sliceBounds, run_sliceBound, h0, h1]
  · simp [Instr.sliceBounds, run_sliceBound, show (0 : Int) ≤ h by omega, h2, h0, h1, eh]
theorem evSlice_ok (hT : TOk P T) {ty : TypeId} {x : Operand} {lo hi : Option Operand} (hc : constOk T o = true) (ho : o.op = .slice ty x lo hi none) (h : evSlice T st g ty x lo hi k) : Yld E P st o g k := by
  unfold evSlice at h
  obtain ⟨a', h, ha'⟩ := unc_ok h
  split at h
  · exact h.elim
  · rename_i ti hti
    have hf := hT _ _ hti
    have hu := hf.under
    have hcl : ∀ y, lo = some y → cOk T 0 y = true := fun y hy => constOk.at hc (by simp [opcs, ho, hy])
    have hch : ∀ y, hi = some y → cOk T 0 y = true := fun y hy => constOk.at hc (by simp [opcs, ho, hy])
    have hexec : ∀ (a : Act) (w : World) (v : Value), (Instr.sliceAt ty (a.eval x) (lo.map a.eval) (hi.map a.eval) none).run P w = .ok v w → (execOp a.eval o).run P w = .ok (.value v) w := by
      intro a w v hv
      simp only [execOp, ho, Sem.run_bind, Option.map_none, hv, Result.andThen_ok, Sem.run_pure]
    have key : ∀ (B : Base) (G : Gh) (w : World) (a : Act), Good E B G w → (∀ l, l ∈ opN x ++ (bndN lo ++ bndN hi) → RepL G w a l st) → g = true → Rep G.F w G.ι (a.eval x) a' := fun B G w a hgd hN hg =>
      ha' hg _ _ _ _ (evV_ok (T := T) hgd (constOk.at hc (ty := ty) (x := x) (by simp [opcs, ho])) fun l hl => hN l (List.mem_append_left _ hl)).1
    have bnds : ∀ {l h d : Int}, (g = true → ∀ (B : Base) (G : Gh) (w : World) (a : Act), Good E B G w → (∀ l, l ∈ bndN lo → RepL G w a l st) → (∀ y, lo = some y → cOk T 0 y = true) → (lo = none ∧ l = 0) ∨ ∃ y kd, lo = some y ∧ a.eval y = .int kd l) →
        (g = true → ∀ (B : Base) (G : Gh) (w : World) (a : Act), Good E B G w → (∀ l, l ∈ bndN hi → RepL G w a l st) → (∀ y, hi = some y → cOk T 0 y = true) → (hi = none ∧ h = d) ∨ ∃ y kd, hi = some y ∧ a.eval y = .int kd h) →
        ∀ (B : Base) (G : Gh) (w : World) (a : Act), Good E B G w → (∀ l, l ∈ opN x ++ (bndN lo ++ bndN hi) → RepL G w a l st) → g = true →
          ((lo.map a.eval = none ∧ l = 0) ∨ ∃ k, lo.map a.eval = some (.int k l)) ∧ ((hi.map a.eval = none ∧ h = d) ∨ ∃ k, hi.map a.eval = some (.int k h)) := by
      intro l h d h1 h2 B G w a hgd hN hg
      refine ⟨?_, ?_⟩
      · rcases h1 hg B G w a hgd (fun l hl => hN l (by simp [hl])) hcl with ⟨e, e'⟩ | ⟨y, kd, e, e'⟩
        · exact .inl ⟨by simp [e], e'⟩
        · exact .inr ⟨kd, by simp [e, e']⟩
      · rcases h2 hg B G w a hgd (fun l hl => hN l (by simp [hl])) hch with ⟨e, e'⟩ | ⟨y, kd, e, e'⟩
        · exact .inl ⟨by simp [e], e'⟩
        · exact .inr ⟨kd, by simp [e, e']⟩
    split at h
    · rename_i s hd
      rw [hd] at hu
      obtain ⟨l, h, hl⟩ := bndE_ok (E := E) h
      obtain ⟨hh, h, hh'⟩ := bndE_ok (E := E) h
      obtain ⟨hcnd, h⟩ := h
      refine ⟨_, none, _, h, fun hg => .value fun B G w a hgd hN => ?_⟩
      obtain ⟨h0, h1, h2⟩ := hcnd hg
      have hr := key B G w a hgd hN hg
      obtain ⟨b1, b2⟩ := bnds hl hh' B G w a hgd hN hg
      have he := hexec a w
      generalize a.eval x = vx at *
      cases hr with
      | str _ _ hsl =>
      refine ⟨_, he _ ?_, .str _ _ ?_, trivial⟩
      · rw [run_sliceAt_string w ty _ _ _ _ hu]
        have hz : (⟨s.toArray⟩ : ByteArray).size = s.length := by simp [ByteArray.size]
        simp only [Instr.slice, Sem.run_bind, run_underlying hu, Result.andThen_ok, Option.isSome_none, Bool.false_eq_true, if_false, hz]
        rw [run_bounds w false s.length s.length _ _ l hh b1 b2 h0 h1 (by omega)]
        simp only [Result.andThen_ok, Sem.run_pure, ByteArray.extract_mk]
      · simp; omega
    · rename_i e sz xs hd
      rw [hd] at hu
      have hu' : P.underlying ty = some (.slice (P.elem ty)) := by simp [Program.elem, hu]
      have hel : P.elem ty = e := by simp [Program.elem, hu]
      have hes := fun w => hf.run_esz w (.inl hd)
      obtain ⟨l, h, hl⟩ := bndE_ok (E := E) h
      obtain ⟨hh, h, hh'⟩ := bndE_ok (E := E) h
      obtain ⟨⟨hcnd, hsz'⟩, h⟩ := h
      refine ⟨_, none, _, h, fun hg => .value fun B G w a hgd hN => ?_⟩
      obtain ⟨h0, h1, h2⟩ := hcnd hg
      have hr := key B G w a hgd hN hg
      obtain ⟨b1, b2⟩ := bnds hl hh' B G w a hgd hN hg
      have he := hexec a w
      obtain ⟨ad, n, cap, hv, hn, hc', hm, hsz, hrow⟩ := hr.list_inv
      rw [hv] at he
      rw [← hn] at b2
      refine ⟨_, he (.slice (if cap = l.toNat then ad else ad.map (·.add (l.toNat * sz))) (hh.toNat - l.toNat) (cap - l.toNat)) ?_, ?_, trivial⟩
      · rw [run_sliceAt_slice w ty _ _ _ _ hu', run_slice_any w ty ad n cap hu', run_bounds w true n cap _ _ l hh b1 b2 h0 h1 (by omega), Result.andThen_ok, hel, hes, Result.andThen_ok, sliced, hsz']
      · have hlen : ((xs.drop l.toNat).take (hh.toNat - l.toNat)).length = hh.toNat - l.toNat := by simp; omega
        have hesz : ∀ e, e ∈ (xs.drop l.toNat).take (hh.toNat - l.toNat) → e.cells.length = sz := fun e he => hsz e (List.mem_of_mem_drop (List.mem_of_mem_take he))
        rcases Nat.eq_zero_or_pos (hh.toNat - l.toNat) with hz | hz
        · rw [hz]
          simp only [List.take_zero]
          exact .empty _ _ _ _ (by omega)
        · have hne : xs ≠ [] := by
            rintro rfl
            simp at h2; omega
          rcases hrow with h | ⟨b, off, vals, hb, hF, hcell, hrep⟩
          · exact absurd h hne
          · subst hb
            rw [if_neg (by omega)]
            simp only [Option.map_some, add_plain]
            refine .list _ b (off + l.toNat * sz) _ _ _ _ (fun i j => vals (l.toNat + i) j) hlen.symm (by omega) (by omega) hesz (fun j hj => ?_) (fun i e j c hi hj => ?_) (fun i e j c hi hj => ?_)
            · rw [Nat.add_assoc]
              refine hF _ ?_
              rw [hlen] at hj
              have h3 : (l.toNat + (hh.toNat - l.toNat)) * sz ≤ xs.length * sz := Nat.mul_le_mul_right _ (by omega)
              rw [Nat.add_mul] at h3
              omega
            · have hi2 : xs[l.toNat + i]? = some e := by
                rw [List.getElem?_take] at hi
                split at hi
                · rw [List.getElem?_drop] at hi; exact hi
                · cases hi
              have := hcell _ _ _ _ hi2 hj
              rw [show off + l.toNat * sz + (i * sz + j) = off + ((l.toNat + i) * sz + j) by rw [Nat.add_mul]; omega]
              exact this
            · have hi2 : xs[l.toNat + i]? = some e := by
                rw [List.getElem?_take] at hi
                split at hi
                · rw [List.getElem?_drop] at hi; exact hi
                · cases hi
              exact hrep _ _ _ _ hi2 hj
    · rename_i e id off len hd
      rw [hd] at hu
      have hu' : P.underlying ty = some (.slice (P.elem ty)) := by simp [Program.elem, hu]
      have hel : P.elem ty = e := by simp [Program.elem, hu]
      have hes := fun w => hf.run_esz w (.inl hd)
      obtain ⟨l, h, hl⟩ := bndE_ok (E := E) h
      obtain ⟨hh, h, hh'⟩ := bndE_ok (E := E) h
      obtain ⟨hcnd, h⟩ := h
      refine ⟨_, none, _, h, fun hg => .value fun B G w a hgd hN => ?_⟩
      obtain ⟨h0, h1, h2⟩ := hcnd hg
      have hr := key B G w a hgd hN hg
      obtain ⟨b1, b2⟩ := bnds hl hh' B G w a hgd hN hg
      have he := hexec a w
      generalize a.eval x = vx at *
      cases hr with
      | row0 => simp at h2; omega
      | row _ _ _ _ cap g' hι hcap hm =>
      refine ⟨_, he (.slice (some ⟨g', off + l.toNat * ti.esz, none⟩) (hh.toNat - l.toNat) (cap - l.toNat)) ?_, .row _ _ _ _ _ _ hι (by omega) (by omega), trivial⟩
      rw [run_sliceAt_slice w ty _ _ _ _ hu', run_slice_any w ty _ len cap hu', run_bounds w true len cap _ _ l hh b1 b2 h0 (by omega) (by omega), Result.andThen_ok, hel, hes, Result.andThen_ok, sliced, if_neg (show ¬ cap = l.toNat by omega)]
      simp [add_plain]
    · rename_i n e id off hd
      rw [hd] at hu
      have hes := fun w => hf.run_esz w (.inr ⟨n, hd⟩)
      obtain ⟨l, h, hl⟩ := bndE_ok (E := E) h
      obtain ⟨hh, h, hh'⟩ := bndE_ok (E := E) h
      obtain ⟨⟨hcnd, hn⟩, h⟩ := h
      refine ⟨_, none, _, h, fun hg => .value fun B G w a hgd hN => ?_⟩
      obtain ⟨h0, h1, h2⟩ := hcnd hg
      have hr := key B G w a hgd hN hg
      obtain ⟨b1, b2⟩ := bnds hl hh' B G w a hgd hN hg
      have he := hexec a w
      generalize a.eval x = vx at *
      cases hr with
      | ptr _ _ _ g' hι =>
      refine ⟨_, he (.slice (some ⟨g', off + l.toNat * ti.esz, none⟩) (hh.toNat - l.toNat) (n - l.toNat)) ?_, .row _ _ _ _ _ _ hι (by omega) (by unfold maxLen; omega), trivial⟩
      simp only [Instr.sliceAt, Instr.sureAddr, Sem.run_bind, run_underlying hu, Result.andThen_ok, Sem.run_pure]
      rw [run_bounds w false n n _ _ l hh b1 b2 h0 (by omega) (by omega), Result.andThen_ok, hes, Result.andThen_ok, if_neg (show ¬ n = l.toNat by omega)]
      simp [add_plain]
    · exact h.elim
def evFieldAddr (T : Tab) (st : St) (g : Bool) (ty : TypeId) (x : Operand) (n : Nat) (k : AV → Option Nat → List Loc → Prop) : Prop :=
  unc g (evV T st 0 x) fun a => match T.at ty with
    | none => False
    | some ti => match ti.desc with
      | .struct fs => optE fs[n]? fun f => match a with
        | .ptr id off => k (.ptr id (off + f.offset)) none (opN x)
        | .iptr cs => k (.iptr (cs.drop f.offset)) none (opN x)
        | _ => False
      | _ => False
theorem iptr_drop {F : Nat → Nat → Prop} {w : World} {ι : Nat → Option Nat} {b o : Nat} {cs : List AV} {vals : Nat → Value} (n : Nat) (hF : ∀ j, j < cs.length → F b (o + j))
    (hv : ∀ (j : Nat) (c : AV), cs[j]? = some c → w.cell? ⟨b, o + j, none⟩ = some (vals j) ∧ (vals j).oneCell' = true) (hr : ∀ (j : Nat) (c : AV), cs[j]? = some c → Rep F w (fun _ => none) (vals j) c) :
    Rep F w ι (.pointer (some ⟨b, o + n, none⟩)) (.iptr (cs.drop n)) := by
  refine .iptr _ b (o + n) _ (fun j => vals (n + j)) (fun j hj => ?_) (fun j c hc => ?_) (fun j c hc => ?_)
  · rw [Nat.add_assoc]; refine hF _ ?_; simp at hj; omega
  · rw [List.getElem?_drop] at hc; rw [Nat.add_assoc]; exact hv _ _ hc
  · rw [List.getElem?_drop] at hc; exact hr _ _ hc
theorem evFieldAddr_ok (hT : TOk P T) {ty : TypeId} {x : Operand} {n : Nat} (hc : constOk T o = true) (ho : o.op = .fieldAddr ty x n) (h : evFieldAddr T st g ty x n k) : Yld E P st o g k := by
  unfold evFieldAddr at h
  obtain ⟨a', h, ha'⟩ := unc_ok h
  split at h
  · exact h.elim
  · rename_i ti hti
    have hf := hT _ _ hti
    have hu := hf.under
    split at h
    · rename_i fs hd
      rw [hd] at hu
      obtain ⟨f, hfn, h⟩ := optE_ok h
      have hexec : ∀ (a : Act) (w : World) (ad : Addr), a.eval x = .pointer (some ad) → (execOp a.eval o).run P w = .ok (.value (.pointer (some (ad.add f.offset)))) w := by
        intro a w ad hv
        simp only [execOp, ho, Sem.run_bind, Instr.fieldAt, run_underlying hu, Result.andThen_ok, hfn, hv, Instr.sureAddr, Sem.run_pure, hf.run_fieldPlace w hd hfn]
      split at h
      · refine ⟨_, none, _, h, fun hg => .value fun B G w a hgd hN => ?_⟩
        have h1 := ha' hg _ _ _ _ (evV_ok (T := T) hgd (constOk.at hc (ty := 0) (x := x) (by simp [opcs, ho])) hN).1
        have he := hexec a w
        generalize a.eval x = vx at *
        cases h1 with
        | ptr _ _ _ gg hι => exact ⟨_, he _ rfl, by rw [add_plain]; exact .ptr _ _ _ _ hι, trivial⟩
      · refine ⟨_, none, _, h, fun hg => .value fun B G w a hgd hN => ?_⟩
        have h1 := ha' hg _ _ _ _ (evV_ok (T := T) hgd (constOk.at hc (ty := 0) (x := x) (by simp [opcs, ho])) hN).1
        have he := hexec a w
        generalize a.eval x = vx at *
        cases h1 with
        | iptr _ b oo _ vals hF hv hr => exact ⟨_, he _ rfl, by rw [add_plain]; exact iptr_drop _ hF hv hr, trivial⟩
      · exact h.elim
    · exact h.elim
def partE (ft : Option TI) (cs : List AV) (off : Nat) (k : AV → Prop) : Prop :=
  match ft with
  | none => False
  | some fi => match isAggD fi.desc with
    | true => off + fi.size ≤ cs.length ∧ k (.agg ((cs.drop off).take fi.size))
    | false => optE cs[off]? k
theorem partE_ok (hT : TOk P T) {ty : TypeId} {cs : List AV} {off : Nat} {k : AV → Prop} (h : partE (T.at ty) cs off k) : ∃ r, k r ∧ ∀ (F : Nat → Nat → Prop) (w : World) (ι : Nat → Option Nat) (vs : List Value),
    Rep F w ι (.agg vs.toArray) (.agg cs) → ∃ v, (part ty vs.toArray off).run P w = .ok v w ∧ Rep F w ι v r := by
  unfold partE at h
  split at h
  · exact h.elim
  · rename_i fi hfi
    have hf := hT _ _ hfi
    split at h
    · rename_i ha
      obtain ⟨hle, h⟩ := h
      refine ⟨_, h, fun F w ι vs hr => ?_⟩
      cases hr with
      | agg _ _ _ hl ho hr =>
      refine ⟨.agg ((vs.drop off).take fi.size).toArray, ?_, ?_⟩
      · simp only [part, Sem.run_bind, hf.run_agg, ha, Result.andThen_ok, if_true, hf.run_size, Sem.run_pure]
        congr 2
        simp
      · refine .agg _ _ _ (by simp [hl]) (fun v hv => ho v (List.mem_of_mem_drop (List.mem_of_mem_take hv))) fun i v c hv hc => ?_
        rw [List.getElem?_take] at hv hc
        split at hv
        · rw [if_pos (by assumption), List.getElem?_drop] at hc
          rw [List.getElem?_drop] at hv
          exact hr _ _ _ hv hc
        · cases hv
    · rename_i ha
      obtain ⟨c, hc, h⟩ := optE_ok h
      refine ⟨_, h, fun F w ι vs hr => ?_⟩
      cases hr with
      | agg _ _ _ hl ho hr =>
      have hi : off < vs.length := by have := (List.getElem?_eq_some_iff.1 hc).1; omega
      refine ⟨vs[off], ?_, hr off _ _ (List.getElem?_eq_getElem hi) hc⟩
      simp only [part, Sem.run_bind, hf.run_agg, ha, Result.andThen_ok, Bool.false_eq_true, if_false]
      simp [List.getElem?_eq_getElem hi]
def evField (T : Tab) (st : St) (g : Bool) (ty : TypeId) (x : Operand) (n : Nat) (k : AV → Option Nat → List Loc → Prop) : Prop :=
  unc g (evV T st ty x) fun a => match T.at ty with
    | none => False
    | some ti => match ti.desc, a with
      | .struct fs, .agg cs => optE fs[n]? fun f => partE (T.at f.type) cs f.offset fun r => k r none (opN x)
      | _, _ => False
theorem evField_ok (hT : TOk P T) {ty : TypeId} {x : Operand} {n : Nat} (hc : constOk T o = true) (ho : o.op = .field ty x n) (h : evField T st g ty x n k) : Yld E P st o g k := by
  unfold evField at h
  obtain ⟨a', h, ha'⟩ := unc_ok h
  split at h
  · exact h.elim
  · rename_i ti hti
    have hu := (hT _ _ hti).under
    split at h
    · rename_i fs cs hd
      rw [hd] at hu
      obtain ⟨f, hfn, h⟩ := optE_ok h
      obtain ⟨r, h, hr⟩ := partE_ok hT h
      refine ⟨_, none, _, h, fun hg => .value fun B G w a hgd hN => ?_⟩
      have h1 := ha' hg _ _ _ _ (evV_ok (T := T) hgd (constOk.at hc (ty := ty) (x := x) (by simp [opcs, ho])) hN).1
      generalize hv : a.eval x = vx at *
      have h2 := h1
      cases h1 with
      | agg _ vs _ hl _ _ =>
      obtain ⟨v, hv', hrep⟩ := hr _ _ _ _ h2
      exact ⟨v, by simp only [execOp, ho, hv, Sem.run_bind, Instr.field, run_underlying hu, Result.andThen_ok, hfn, asAgg, Sem.run_pure, hv'], hrep, trivial⟩
    · exact h.elim
def evIndexAddr (T : Tab) (st : St) (g : Bool) (ty : TypeId) (x i : Operand) (k : AV → Option Nat → List Loc → Prop) : Prop :=
  unc g (evV T st ty x) fun a => unc g (evV T st 0 i) fun ix => match T.at ty, ix with
    | some ti, .int _ n => match ti.desc, a with
      | .slice _, .list sz xs => ti.esz = sz ∧ ∃ e, (g = true → 0 ≤ n ∧ xs[n.toNat]? = some e) ∧ k (.iptr e.cells) none (opN x ++ opN i)
      | .slice _, .row id off len => (g = true → 0 ≤ n ∧ n < (len : Int)) ∧ k (.ptr id (off + n.toNat * ti.esz)) none (opN x ++ opN i)
      | .array len _, .ptr id off => (g = true → 0 ≤ n ∧ n < (len : Int)) ∧ k (.ptr id (off + n.toNat * ti.esz)) none (opN x ++ opN i)
      | .array len _, .iptr cs => (g = true → 0 ≤ n ∧ n < (len : Int)) ∧ k (.iptr (cs.drop (n.toNat * ti.esz))) none (opN x ++ opN i)
      | _, _ => False
    | _, _ => False
theorem evIndexAddr_ok (hT : TOk P T) {ty : TypeId} {x i : Operand} (hc : constOk T o = true) (ho : o.op = .indexAddr ty x i) (h : evIndexAddr T st g ty x i k) : Yld E P st o g k := by
  unfold evIndexAddr at h
  obtain ⟨a', h, ha'⟩ := unc_ok h
  obtain ⟨b', h, hb'⟩ := unc_ok h
  split at h
  · rename_i ti kd n hti
    have hf := hT _ _ hti
    have hu := hf.under
    have key : ∀ (B : Base) (G : Gh) (w : World) (a : Act), Good E B G w → (∀ l, l ∈ opN x ++ opN i → RepL G w a l st) → g = true → Rep G.F w G.ι (a.eval x) a' ∧ a.eval i = .int kd n := fun B G w a hgd hN hg => by
      refine ⟨ha' hg _ _ _ _ (evV_ok (T := T) hgd (constOk.at hc (ty := ty) (x := x) (by simp [opcs, ho])) fun l hl => hN l (mem2.1 hl)).1, ?_⟩
      have := hb' hg _ _ _ _ (evV_ok (T := T) hgd (constOk.at hc (ty := 0) (x := i) (by simp [opcs, ho])) fun l hl => hN l (mem2.2 hl)).1
      generalize a.eval i = v at *
      cases this; rfl
    split at h
    · rename_i e sz xs hd _
      rw [hd] at hu
      obtain ⟨hsz', el, hcnd, h⟩ := h
      have hes := fun w => hf.run_esz w (.inl hd)
      have hu' : P.underlying ty = some (.slice (P.elem ty)) := by simp [Program.elem, hu]
      have hel : P.elem ty = e := by simp [Program.elem, hu]
      refine ⟨_, none, _, h, fun hg => .value fun B G w a hgd hN => ?_⟩
      obtain ⟨h0, hi⟩ := hcnd hg
      obtain ⟨h1, h2⟩ := key B G w a hgd hN hg
      obtain ⟨ad, nn, cap, hv, hn, hc', hm, hsz, hrow⟩ := h1.list_inv
      have hilt : n.toNat < xs.length := (List.getElem?_eq_some_iff.1 hi).1
      rcases hrow with h | ⟨b, off, vals, hb, hF, hcell, hrep⟩
      · rw [h] at hilt; simp at hilt
      · subst hb
        refine ⟨.pointer (some ⟨b, off + n.toNat * sz, none⟩), ?_, .iptr _ b _ _ (fun j => vals n.toNat j) (fun j hj => ?_) (fun j c hj => ?_) (fun j c hj => hrep _ _ _ _ hi hj), trivial⟩
        · simp only [execOp, ho, Sem.run_bind, h2, hv, run_indexAt_slice w ty _ _ _ _ _ hu', hel, hes]
          rw [if_pos (by omega), hsz']
          simp [add_plain]
        · rw [Nat.add_assoc]
          refine hF _ ?_
          have := hsz el (List.mem_of_getElem? hi)
          have h1 : (n.toNat + 1) * sz ≤ xs.length * sz := Nat.mul_le_mul_right _ hilt
          rw [Nat.add_mul] at h1
          omega
        · rw [Nat.add_assoc]; exact hcell _ _ _ _ hi hj
    · rename_i e id off len hd _
      rw [hd] at hu
      obtain ⟨hcnd, h⟩ := h
      have hes := fun w => hf.run_esz w (.inl hd)
      have hu' : P.underlying ty = some (.slice (P.elem ty)) := by simp [Program.elem, hu]
      have hel : P.elem ty = e := by simp [Program.elem, hu]
      refine ⟨_, none, _, h, fun hg => .value fun B G w a hgd hN => ?_⟩
      obtain ⟨h0, h1⟩ := hcnd hg
      obtain ⟨r1, r2⟩ := key B G w a hgd hN hg
      generalize hv : a.eval x = vx at *
      cases r1 with
      | row0 => simp at h1; omega
      | row _ _ _ _ cap g' hι hcap hm =>
      refine ⟨.pointer (some ⟨g', off + n.toNat * ti.esz, none⟩), ?_, .ptr _ _ _ _ hι, trivial⟩
      simp only [execOp, ho, Sem.run_bind, r2, hv, run_indexAt_slice w ty _ _ _ _ _ hu', hel, hes]
      rw [if_pos (by omega)]
      simp [add_plain]
    · rename_i len e id off hd _
      rw [hd] at hu
      obtain ⟨hcnd, h⟩ := h
      have hes := fun w => hf.run_esz w (.inr ⟨len, hd⟩)
      have hu' : P.underlying ty = some (.array (P.arrayLen ty) (P.elem ty)) := by simp [Program.elem, Program.arrayLen, hu]
      have hel : P.elem ty = e := by simp [Program.elem, hu]
      have hal : P.arrayLen ty = len := by simp [Program.arrayLen, hu]
      refine ⟨_, none, _, h, fun hg => .value fun B G w a hgd hN => ?_⟩
      obtain ⟨h0, h1⟩ := hcnd hg
      obtain ⟨r1, r2⟩ := key B G w a hgd hN hg
      generalize hv : a.eval x = vx at *
      cases r1 with
      | ptr _ _ _ g' hι =>
      refine ⟨.pointer (some ⟨g', off + n.toNat * ti.esz, none⟩), ?_, .ptr _ _ _ _ hι, trivial⟩
      simp only [execOp, ho, Sem.run_bind, r2, hv, run_indexAt_array w ty _ _ _ hu', hel, hal, hes]
      rw [if_pos (by omega)]
      simp [add_plain]
    · rename_i len e cs hd _
      rw [hd] at hu
      obtain ⟨hcnd, h⟩ := h
      have hes := fun w => hf.run_esz w (.inr ⟨len, hd⟩)
      have hu' : P.underlying ty = some (.array (P.arrayLen ty) (P.elem ty)) := by simp [Program.elem, Program.arrayLen, hu]
      have hel : P.elem ty = e := by simp [Program.elem, hu]
      have hal : P.arrayLen ty = len := by simp [Program.arrayLen, hu]
      refine ⟨_, none, _, h, fun hg => .value fun B G w a hgd hN => ?_⟩
      obtain ⟨h0, h1⟩ := hcnd hg
      obtain ⟨r1, r2⟩ := key B G w a hgd hN hg
      generalize hv : a.eval x = vx at *
      cases r1 with
      | iptr _ b oo _ vals hF hvv hr =>
      refine ⟨.pointer (some ⟨b, oo + n.toNat * ti.esz, none⟩), ?_, iptr_drop _ hF hvv hr, trivial⟩
      simp only [execOp, ho, Sem.run_bind, r2, hv, run_indexAt_array w ty _ _ _ hu', hel, hal, hes]
      rw [if_pos (by omega)]
      simp [add_plain]
    · exact h.elim
  · exact h.elim
def evIndex (T : Tab) (st : St) (g : Bool) (ty : TypeId) (x i : Operand) (k : AV → Option Nat → List Loc → Prop) : Prop :=
  unc g (evV T st ty x) fun a => unc g (evV T st 0 i) fun ix => match T.at ty, ix with
    | some ti, .int _ n => match ti.desc, a with
      | .string, .str s => ∃ b, (g = true → 0 ≤ n ∧ s[n.toNat]? = some b) ∧ k (byteAV b) none (opN x ++ opN i)
      | _, _ => False
    | _, _ => False
theorem u8_wrap (b : UInt8) : IntKind.u8.wrap (b.toNat : Int) = b.toNat := by
  have := b.toNat_lt
  exact IntWalk.u8_in _ (by omega)
theorem evIndex_ok (hT : TOk P T) {ty : TypeId} {x i : Operand} (hc : constOk T o = true) (ho : o.op = .index ty x i) (h : evIndex T st g ty x i k) : Yld E P st o g k := by
  unfold evIndex at h
  obtain ⟨a', h, ha'⟩ := unc_ok h
  obtain ⟨b', h, hb'⟩ := unc_ok h
  split at h
  · rename_i ti kd n hti
    have hu := (hT _ _ hti).under
    split at h
    · rename_i s hd _
      rw [hd] at hu
      obtain ⟨b, hcnd, h⟩ := h
      refine ⟨_, none, _, h, fun hg => .value fun B G w a hgd hN => ?_⟩
      obtain ⟨h0, hi⟩ := hcnd hg
      have r1 := ha' hg _ _ _ _ (evV_ok (T := T) hgd (constOk.at hc (ty := ty) (x := x) (by simp [opcs, ho])) fun l hl => hN l (mem2.1 hl)).1
      have r2 := hb' hg _ _ _ _ (evV_ok (T := T) hgd (constOk.at hc (ty := 0) (x := i) (by simp [opcs, ho])) fun l hl => hN l (mem2.2 hl)).1
      generalize hv : a.eval x = vx at *
      generalize hv2 : a.eval i = vi at *
      cases r1; cases r2
      have hilt : n.toNat < s.length := (List.getElem?_eq_some_iff.1 hi).1
      refine ⟨.int .u8 b.toNat, ?_, .int _ _ _ (u8_wrap b), trivial⟩
      have hb : (⟨s.toArray⟩ : ByteArray)[n.toNat]? = some b := by
        rw [ByteArray.getElem?_lt' _ _ (by simpa [ByteArray.size] using hilt)]
        have : (⟨s.toArray⟩ : ByteArray)[n.toNat]'(by simpa [ByteArray.size] using hilt) = s[n.toNat] := rfl
        rw [this]
        rw [List.getElem?_eq_getElem hilt] at hi
        exact hi
      simp only [execOp, ho, hv, hv2, Sem.run_bind, Instr.index, asIntOf, Sem.run_pure, Result.andThen_ok, run_underlying hu, if_pos h0, hb]
    · exact h.elim
  · exact h.elim
def evLoad (T : Tab) (st : St) (g : Bool) (ty : TypeId) (x : Operand) (k : AV → Option Nat → List Loc → Prop) : Prop :=
  unc g (evV T st 0 x) fun a => match T.at ty with
    | none => False
    | some ti => match a with
      | .iptr cs => (match isAggD ti.desc with
        | true => ti.size ≤ cs.length ∧ k (.agg (cs.take ti.size)) none (opN x)
        | false => optE cs[0]? fun c => k c none (opN x))
      | .ptr id off => optE st.H[id]? fun ob => match ob with
        | .cells _ cs tg => (match isAggD ti.desc with
          | true => (0 < ti.size ∧ off + ti.size ≤ cs.length) ∧ k (.agg ((cs.drop off).take ti.size)) none (opN x ++ [.obj id])
          | false => optE cs[off]? fun c => k c (tg.lookup off) (opN x ++ [.obj id]))
        | _ => False
      | _ => False
theorem evLoad_ok (hT : TOk P T) {ty : TypeId} {x : Operand} (hc : constOk T o = true) (ho : o.op = .load ty x) (h : evLoad T st g ty x k) : Yld E P st o g k := by
  unfold evLoad at h
  obtain ⟨a', h, ha'⟩ := unc_ok h
  split at h
  · exact h.elim
  · rename_i ti hti
    have hf := hT _ _ hti
    have hagg : ∀ (a : Act) (w : World) (ad : Addr) (vs : List Value), a.eval x = .pointer (some ad) → isAggD ti.desc = true → vs.length = ti.size → (∀ j v, vs[j]? = some v → w.cell? (ad.add j) = some v) →
        (execOp a.eval o).run P w = .ok (.value (.agg vs.toArray)) w := by
      intro a w ad vs hv ha hl hcell
      simp only [execOp, ho, Sem.run_bind, Instr.loadAt, hv, Instr.sureAddr, Sem.run_pure, Result.andThen_ok, loadVar, hf.run_agg, ha, if_true, hf.run_size, ← hl, run_loadCells_list w ad vs hcell]
    have hone : ∀ (a : Act) (w : World) (ad : Addr) (v : Value), a.eval x = .pointer (some ad) → isAggD ti.desc = false → w.cell? ad = some v → (execOp a.eval o).run P w = .ok (.value v) w := by
      intro a w ad v hv ha hcell
      simp only [execOp, ho, Sem.run_bind, Instr.loadAt, hv, Instr.sureAddr, Sem.run_pure, Result.andThen_ok, loadVar, hf.run_agg, ha, Bool.false_eq_true, if_false, run_load, hcell]
    split at h
    · rename_i cs
      split at h
      · rename_i ha
        obtain ⟨hle, h⟩ := h
        refine ⟨_, none, _, h, fun hg => .value fun B G w a hgd hN => ?_⟩
        have r1 := ha' hg _ _ _ _ (evV_ok (T := T) hgd (constOk.at hc (ty := 0) (x := x) (by simp [opcs, ho])) hN).1
        generalize hv : a.eval x = vx at *
        cases r1 with
        | iptr _ b oo _ vals hF hvv hr =>
        have hl : ((List.range ti.size).map vals).length = ti.size := by simp
        refine ⟨_, hagg a w _ ((List.range ti.size).map vals) hv ha hl (fun j v hj => ?_), ?_, trivial⟩
        · have hjl : j < ti.size := by have := (List.getElem?_eq_some_iff.1 hj).1; simpa using this
          have hv' : vals j = v := by simpa [hjl] using hj
          rw [add_plain, (hvv j _ (List.getElem?_eq_getElem (by omega))).1, hv']
        · refine .agg _ _ _ (by simp; omega) (fun v hv => ?_) fun i v c hi hc => ?_
          · obtain ⟨j, hj, rfl⟩ := List.mem_map.1 hv
            exact (hvv j _ (List.getElem?_eq_getElem (by have := List.mem_range.1 hj; omega))).2
          · have hil : i < ti.size := by have := (List.getElem?_eq_some_iff.1 hi).1; simpa using this
            have hv' : vals i = v := by simpa [hil] using hi
            rw [List.getElem?_take, if_pos hil] at hc
            rw [← hv']
            exact (hr i c hc).mono (fun _ _ h => h) (fun _ _ _ => rfl) _ (fun _ _ h => by cases h)
      · rename_i ha
        obtain ⟨c, hcs, h⟩ := optE_ok h
        refine ⟨_, none, _, h, fun hg => .value fun B G w a hgd hN => ?_⟩
        have r1 := ha' hg _ _ _ _ (evV_ok (T := T) hgd (constOk.at hc (ty := 0) (x := x) (by simp [opcs, ho])) hN).1
        generalize hv : a.eval x = vx at *
        cases r1 with
        | iptr _ b oo _ vals hF hvv hr =>
        exact ⟨_, hone a w _ _ hv ha (hvv 0 c hcs).1, (hr 0 c hcs).mono (fun _ _ h => h) (fun _ _ _ => rfl) _ (fun _ _ h => by cases h), trivial⟩
    · rename_i id off
      obtain ⟨ob, hob, h⟩ := optE_ok h
      split at h
      · rename_i t cs tg
        have hobj : ∀ (G : Gh) (w : World) (a : Act), (∀ l, l ∈ opN x ++ [.obj id] → RepL G w a l st) → RepObj G w id (some (.cells t cs tg)) := by
          intro G w a hN
          have := hN (.obj id) (by simp)
          simpa only [RepL, hob] using this
        split at h
        · rename_i ha
          obtain ⟨⟨hpos, hle⟩, h⟩ := h
          refine ⟨_, none, _, h, fun hg => .value fun B G w a hgd hN => ?_⟩
          have r1 := ha' hg _ _ _ _ (evV_ok (T := T) hgd (constOk.at hc (ty := 0) (x := x) (by simp [opcs, ho])) fun l hl => hN l (List.mem_append_left _ hl)).1
          obtain ⟨gg, i1, i2, i3, vals, fz, i4, i5, i6, i7⟩ := (hobj G w a hN).resolve_left (by rintro rfl; simp at hle; omega)
          generalize hv : a.eval x = vx at *
          cases r1 with
          | ptr _ _ _ g' hι =>
          rw [i1] at hι
          injection hι with hι
          subst hι
          have hsz : cs.length ≤ vals.toList.length := by simpa using i6
          have hl : ((vals.toList.drop off).take ti.size).length = ti.size := by simp; omega
          refine ⟨_, hagg a w _ _ hv ha hl (fun j v hj => ?_), ?_, trivial⟩
          · rw [List.getElem?_take] at hj
            split at hj
            · rw [List.getElem?_drop] at hj
              rw [add_plain]
              simpa [World.cell?, i4] using hj
            · cases hj
          · refine .agg _ _ _ (by rw [hl]; simp; omega) (fun v hv => ?_) fun i v c hi hc => ?_
            · obtain ⟨j, hj, hjv⟩ := List.getElem_of_mem hv
              have hj' : j < ti.size := by rw [hl] at hj; exact hj
              have hjv2 : vals[off + j]? = some v := by
                have := List.getElem?_eq_getElem hj
                rw [hjv, List.getElem?_take, if_pos hj', List.getElem?_drop, Array.getElem?_toList] at this
                exact this
              obtain ⟨u, u1, u2, _⟩ := i7 (off + j) _ (List.getElem?_eq_getElem (by omega))
              rw [hjv2] at u1
              injection u1 with u1
              subst u1
              exact u2
            · rw [List.getElem?_take] at hi hc
              split at hi
              · rw [if_pos (by assumption), List.getElem?_drop] at hc
                rw [List.getElem?_drop, Array.getElem?_toList] at hi
                obtain ⟨u, u1, _, u3⟩ := i7 _ _ hc
                rw [hi] at u1
                injection u1 with u1
                subst u1
                exact u3.1
              · cases hi
        · rename_i ha
          obtain ⟨c, hcs, h⟩ := optE_ok h
          refine ⟨_, _, _, h, fun hg => .value fun B G w a hgd hN => ?_⟩
          have r1 := ha' hg _ _ _ _ (evV_ok (T := T) hgd (constOk.at hc (ty := 0) (x := x) (by simp [opcs, ho])) fun l hl => hN l (List.mem_append_left _ hl)).1
          obtain ⟨gg, i1, i2, i3, vals, fz, i4, i5, i6, i7⟩ := (hobj G w a hN).resolve_left (by rintro rfl; simp at hcs)
          generalize hv : a.eval x = vx at *
          cases r1 with
          | ptr _ _ _ g' hι =>
          rw [i1] at hι
          injection hι with hι
          subst hι
          obtain ⟨u, u1, _, u3⟩ := i7 _ _ hcs
          exact ⟨u, hone a w _ _ hv ha (by simpa [World.cell?, i4] using u1), u3⟩
      · exact h.elim
    · exact h.elim
def evExtract (T : Tab) (st : St) (g : Bool) (x : Operand) (n : Nat) (k : AV → Option Nat → List Loc → Prop) : Prop :=
  unc g (evV T st 0 x) fun a => match a with
    | .tup cs => optE cs[n]? fun c => k c none (opN x)
    | _ => False
theorem evExtract_ok {x : Operand} {n : Nat} (hc : constOk T o = true) (ho : o.op = .extract x n) (h : evExtract T st g x n k) : Yld E P st o g k := by
  unfold evExtract at h
  obtain ⟨a', h, ha'⟩ := unc_ok h
  split at h
  · obtain ⟨c, hcs, h⟩ := optE_ok h
    refine ⟨_, none, _, h, fun hg => .value fun B G w a hgd hN => ?_⟩
    have r1 := ha' hg _ _ _ _ (evV_ok (T := T) hgd (constOk.at hc (ty := 0) (x := x) (by simp [opcs, ho])) hN).1
    generalize hv : a.eval x = vx at *
    cases r1 with
    | tup _ vs _ hl hr =>
    have hi : n < vs.length := by have := (List.getElem?_eq_some_iff.1 hcs).1; omega
    refine ⟨vs[n], ?_, hr n _ _ (List.getElem?_eq_getElem hi) hcs, trivial⟩
    simp [execOp, ho, hv, Instr.extract, List.getElem?_eq_getElem hi]
  · exact h.elim
def evMakeIface (T : Tab) (st : St) (ty : TypeId) (x : Operand) (k : AV → Option Nat → List Loc → Prop) : Prop :=
  match T.at ty with
  | none => False
  | some ti => match ti.desc with
    | .interface _ => False
    | _ => k (.iface ty (evV T st ty x)) none (opN x)
theorem evMakeIface_ok (hT : TOk P T) {ty : TypeId} {x : Operand} (hc : constOk T o = true) (ho : o.op = .makeInterface ty x) (h : evMakeIface T st ty x k) : Yld E P st o g k := by
  unfold evMakeIface at h
  split at h
  · exact h.elim
  · rename_i ti hti
    have hu := (hT _ _ hti).under
    split at h
    · exact h.elim
    · rename_i hni
      refine ⟨_, none, _, h, fun hg => .value fun B G w a hgd hN => ?_⟩
      have r1 := (evV_ok (T := T) hgd (constOk.at hc (ty := ty) (x := x) (by simp [opcs, ho])) hN).1
      refine ⟨.iface ty (a.eval x), ?_, .iface _ _ _ _ r1, trivial⟩
      simp only [execOp, ho, Sem.run_bind, Instr.makeInterface, run_underlying hu, Result.andThen_ok]
      generalize ti.desc = d at *
      cases d <;> first | rfl | exact (hni _ rfl).elim
def evMakeFunc (T : Tab) (st : St) (fn : Fn) (a b : List Operand) (k : AV → Option Nat → List Loc → Prop) : Prop :=
  match fn with
  | .func f => k (.fn f (a.map (evV T st 0)) (b.map (evV T st 0))) none ((a ++ b).flatMap opN)
  | _ => False
theorem evMakeFunc_ok {fn : Fn} {a b : Array Operand} (hc : constOk T o = true) (ho : o.op = .makeFunc fn a b) (h : evMakeFunc T st fn a.toList b.toList k) : Yld E P st o g k := by
  unfold evMakeFunc at h
  split at h
  · rename_i f
    refine ⟨_, none, _, h, fun hg => .value fun B G w ac hgd hN => ?_⟩
    refine ⟨.func (.func f) (a.map ac.eval) (b.map ac.eval), by simp [execOp, ho, Instr.makeFunc], ?_, trivial⟩
    have e1 : a.map ac.eval = (a.toList.map ac.eval).toArray := by rw [← Array.toList_map]
    have e2 : b.map ac.eval = (b.toList.map ac.eval).toArray := by rw [← Array.toList_map]
    rw [e1, e2]
    have hx : ∀ x, x ∈ a.toList ++ b.toList → Rep G.F w G.ι (ac.eval x) (evV T st 0 x) := fun x hx =>
      (evV_ok (T := T) hgd (constOk.at hc (ty := 0) (x := x) (by
        simp only [opcs, ho, Array.toList_append, List.mem_map]
        exact ⟨x, hx, rfl⟩)) fun l hl => hN l (List.mem_flatMap.2 ⟨x, hx, hl⟩)).1
    refine .fn _ _ _ _ _ _ (by simp) (by simp) (fun i v c hv hc => ?_) (fun i v c hv hc => ?_)
    · rw [List.getElem?_map] at hv hc
      cases hh : a.toList[i]? with
      | none => rw [hh] at hv; cases hv
      | some x =>
        rw [hh] at hv hc
        simp only [Option.map_some, Option.some.injEq] at hv hc
        subst hv hc
        exact hx x (List.mem_append_left _ (List.mem_of_getElem? hh))
    · rw [List.getElem?_map] at hv hc
      cases hh : b.toList[i]? with
      | none => rw [hh] at hv; cases hv
      | some x =>
        rw [hh] at hv hc
        simp only [Option.map_some, Option.some.injEq] at hv hc
        subst hv hc
        exact hx x (List.mem_append_right _ (List.mem_of_getElem? hh))
  · exact h.elim
def evNilCheck (T : Tab) (st : St) (g : Bool) (x : Operand) (k : AV → Option Nat → List Loc → Prop) : Prop :=
  unc g (evV T st 0 x) fun a => match a with
    | .ptr id off => k (.ptr id off) none (opN x)
    | .iptr cs => k (.iptr cs) none (opN x)
    | .glob i => k (.glob i) none (opN x)
    | .fn f a b => k (.fn f a b) none (opN x)
    | _ => False
theorem evNilCheck_ok {x : Operand} (hc : constOk T o = true) (ho : o.op = .nilCheck x) (h : evNilCheck T st g x k) : Yld E P st o g k := by
  unfold evNilCheck at h
  obtain ⟨a', h, ha'⟩ := unc_ok h
  split at h
  all_goals first
    | exact h.elim
    | (refine ⟨_, none, _, h, fun hg => .value fun B G w a hgd hN => ?_⟩
       have r1 := ha' hg _ _ _ _ (evV_ok (T := T) hgd (constOk.at hc (ty := 0) (x := x) (by simp [opcs, ho])) hN).1
       have r2 := r1
       generalize hv : a.eval x = vx at *
       cases r1 <;> exact ⟨_, by simp [execOp, ho, hv], r2, trivial⟩)
end
end Go.Pm
namespace Go.Pm
open Go Go.RowKit
set_option linter.unusedVariables false
set_option linter.unusedSimpArgs false
section
variable {E : Env} {B : Base} {G G' : Gh} {w w' : World}
theorem Good.step (h : Good E B G w) (hs : w.heap.size ≤ w'.heap.size) (hblk : ∀ b, b < w.heap.size → G.O b = none → w'.heap[b]? = w.heap[b]?)
    (hcell : ∀ b o, G.F b o → w'.cell? ⟨b, o, none⟩ = w.cell? ⟨b, o, none⟩) (hF : ∀ b o, G.F b o → G'.F b o)
    (hF' : ∀ b o, G'.F b o → b < w'.heap.size ∧ (G.F b o ∨ w.heap.size ≤ b ∨ G.O b ≠ none)) (hO : ∀ b i, G'.O b = some i → b < w'.heap.size ∧ (w.heap.size ≤ b ∨ G.O b ≠ none))
    (hos : w'.os = w.os) (htape : w'.tape = w.tape) (hout : w'.output = w.output) (hx : Ext G w G' w') : Good E B G' w' := by
  have hown : ∀ b i, G'.O b = some i → E.GB ≤ b := fun b i hi => by
    rcases (hO b i hi).2 with h1 | h1
    · have := h.gb; omega
    · cases hh : G.O b with
      | none => exact absurd hh h1
      | some j => exact (h.own b j hh).2
  refine ⟨fun b o hb => (hF' b o hb).1, fun b i hi => ⟨(hO b i hi).1, hown b i hi⟩, Nat.le_trans h.size hs, fun b hb hn => ?_, fun b o hb => ?_, fun b o hb => ?_, hos.trans h.os, htape.trans h.tape, hout.trans h.output, fun b hb => ?_, Nat.le_trans h.gb hs, fun i g hi => ⟨(h.ids i g hi).1, hx.ι _ _ (h.ids i g hi).2⟩, fun i r hi => ⟨(h.toks i r hi).1, hx.κ _ _ (h.toks i r hi).2⟩⟩
  · obtain ⟨h1, h2⟩ := h.old b hb hn
    have hlt : b < w.heap.size := Nat.lt_of_lt_of_le hb h.size
    refine ⟨?_, (hblk b hlt h1).trans h2⟩
    cases hh : G'.O b with
    | none => rfl
    | some i =>
      rcases (hO b i hh).2 with h3 | h3
      · omega
      · exact absurd h1 h3
  · obtain ⟨h1, h2⟩ := h.keep b o hb
    exact ⟨hF _ _ h1, (hcell _ _ h1).trans h2⟩
  · rcases (hF' b o hb).2 with h1 | h1 | h1
    · exact h.new b o h1
    · exact .inr (.inl (Nat.le_trans h.size h1))
    · by_cases hb' : b < B.w.heap.size
      · refine .inr (.inr fun hn => h1 (h.old b hb' hn).1)
      · exact .inr (.inl (by omega))
  · rw [hblk b (Nat.lt_of_lt_of_le hb h.gb) ?_]
    · exact h.glob b hb
    · cases hh : G.O b with
      | none => rfl
      | some i => have := (h.own b i hh).2; omega
theorem RepObj.keep {i : Nat} {c : Option AObj} (h : RepObj G w i c) (hx : Ext G w G' w') (hι : G.ι i = none → G'.ι i = none)
    (hO : ∀ g, G.O g = some (.inl i) → G'.O g = some (.inl i) ∧ w'.heap[g]? = w.heap[g]? ∧ ∀ x, G'.F g x → G.F g x) : RepObj G' w' i c := by
  cases c with
  | none => exact hι h
  | some o =>
    cases o with
    | dead => trivial
    | mp es =>
      obtain ⟨g, h1, h2, h3, h4⟩ := h
      obtain ⟨o1, o2, o3⟩ := hO g h2
      exact ⟨g, hx.ι _ _ h1, o1, fun x hh => h3 x (o3 x hh), h4.keep hx.F hx.w hO o2⟩
    | cells t cs tg =>
      rcases h with h0 | ⟨g, h1, h2, h3, vals, fz, h4, h5, h6, h7⟩
      · exact .inl h0
      obtain ⟨o1, o2, o3⟩ := hO g h2
      exact .inr ⟨g, hx.ι _ _ h1, o1, fun x hh => h3 x (o3 x hh), vals, fz, o2.trans h4, h5, h6, fun j c hc => let ⟨v, a, b, d⟩ := h7 j c hc; ⟨v, a, b, d.ext hx⟩⟩
theorem RepTok.keep {i : Nat} {c : Option Nat} (h : RepTok G w i c) (hx : Ext G w G' w') (hκ : G.κ i = none → G'.κ i = none)
    (hO : ∀ g, G.O g = some (.inr i) → G'.O g = some (.inr i) ∧ w'.heap[g]? = w.heap[g]? ∧ ∀ x, G'.F g x → G.F g x) : RepTok G' w' i c := by
  cases c with
  | none => exact hκ h
  | some o =>
    match o, h with
    | 0, _ => trivial
    | _ + 2, ⟨g, lo, h1⟩ => exact ⟨g, lo, hx.κ _ _ h1⟩
    | 1, ⟨g, lo, hi, h1, h2⟩ =>
      refine ⟨g, lo, hi, hx.κ _ _ h1, fun hlt => ?_⟩
      obtain ⟨k1, k2, vals, t, fz, k3, k4, k5⟩ := h2 hlt
      obtain ⟨o1, o2, o3⟩ := hO g k1
      exact ⟨o1, fun x hx hh => k2 x hx (o3 x hh), vals, t, fz, o2.trans k3, k4, k5⟩
theorem cell_congr {b o : Nat} (h : w'.heap[b]? = w.heap[b]?) : w'.cell? ⟨b, o, none⟩ = w.cell? ⟨b, o, none⟩ := by simp [World.cell?, h]
theorem cell_at {g o : Nat} {vals : Array Value} {t : TypeId} {fz : Nat × Nat} (h : w.heap[g]? = some (.cells vals t fz)) : w.cell? ⟨g, o, none⟩ = vals[o]? := by simp [World.cell?, h]
structure Grown1 (w w' : World) (o : Obj) : Prop where
  size : w'.heap.size = w.heap.size + 1
  old : ∀ b, b < w.heap.size → w'.heap[b]? = w.heap[b]?
  new : w'.heap[w.heap.size]? = some o
  os : w'.os = w.os
  tape : w'.tape = w.tape
  output : w'.output = w.output
theorem grown1_alloc (w : World) (o : Obj) : Grown1 w (w.alloc o) o :=
  ⟨by simp, fun b hb => Below.heap_alloc w o b hb, heap_alloc_new w o, rfl, rfl, rfl⟩
def setI {α : Type} (f : Nat → Option α) (i : Nat) (v : α) : Nat → Option α := fun j => if j = i then some v else f j
theorem setI_same {α : Type} (f : Nat → Option α) (i : Nat) (v : α) : setI f i v i = some v := by simp [setI]
theorem setI_other {α : Type} (f : Nat → Option α) {i j : Nat} (v : α) (h : j ≠ i) : setI f i v j = f j := by simp [setI, h]
theorem new_obj (h : Good E B G w) {id : Nat} (hid : G.ι id = none) {vals : Array Value} {t : TypeId} {fz : Nat × Nat} (hw : Grown1 w w' (.cells vals t fz)) (hfz : ∀ i, i < vals.size → ¬ inFz fz i)
    {cs : List AV} {tg : List (Nat × Nat)} (hl : cs.length ≤ vals.size) (hr : ∀ (j : Nat) (c : AV), cs[j]? = some c → ∃ v, vals[j]? = some v ∧ v.oneCell' = true ∧ RepSlot G w v c (tg.lookup j)) :
    let G1 : Gh := { G with ι := setI G.ι id w.heap.size, O := setI G.O w.heap.size (.inl id) }
    Good E B G1 w' ∧ FrH G w G1 w' [.obj id] ∧ RepObj G1 w' id (some (.cells t cs tg)) ∧ G1.ι id = some w.heap.size := by
  intro G1
  have hne : ∀ b i, G.O b = some i → b ≠ w.heap.size := fun b i hi => Nat.ne_of_lt (h.own b i hi).1
  have hx : Ext G w G1 w' := ⟨fun _ _ x => x, fun i g hi => by
    have : i ≠ id := fun e => by rw [e, hid] at hi; cases hi
    show setI G.ι id w.heap.size i = some g
    rw [setI_other _ _ this]; exact hi, fun _ _ x => x, fun b o hb => cell_congr (hw.old b (h.fin b o hb))⟩
  refine ⟨h.step (by rw [hw.size]; omega) (fun b hb _ => hw.old b hb) (fun b o hb => hx.w b o hb) (fun _ _ x => x) (fun b o hb => ⟨by rw [hw.size]; have := h.fin b o hb; omega, .inl hb⟩) (fun b i hi => ?_) hw.os hw.tape hw.output hx, ⟨hx, fun i c hi hc => ?_, fun i c _ hc => ?_⟩, ?_, setI_same ..⟩
  · by_cases hb : b = w.heap.size
    · subst hb; exact ⟨by rw [hw.size]; omega, .inl (Nat.le_refl _)⟩
    · have hi' : G.O b = some i := by rw [← hi]; exact (setI_other _ _ hb).symm
      exact ⟨by rw [hw.size]; have := (h.own b i hi').1; omega, .inr (by rw [hi']; simp)⟩
  · have hne' : i ≠ id := fun e => hi (by simp [e])
    refine hc.keep hx (fun hn => by show setI _ _ _ i = none; rw [setI_other _ _ hne']; exact hn) fun g hg => ⟨?_, hw.old g (h.own g _ hg).1, fun _ x => x⟩
    show setI _ _ _ g = _
    rw [setI_other _ _ (hne g _ hg)]; exact hg
  · refine hc.keep hx (fun x => x) fun g hg => ⟨?_, hw.old g (h.own g _ hg).1, fun _ x => x⟩
    show setI _ _ _ g = _
    rw [setI_other _ _ (hne g _ hg)]; exact hg
  · refine .inr ⟨w.heap.size, setI_same .., setI_same .., fun x hx' => ?_, vals, fz, hw.new, hfz, hl, fun j c hc => let ⟨v, a, b, d⟩ := hr j c hc; ⟨v, a, b, d.ext hx⟩⟩
    exact absurd (h.fin _ _ hx') (Nat.lt_irrefl _)
theorem new_row (h : Good E B G w) {i : Nat} (hi : G.κ i = none) {vals : Array Value} {t : TypeId} {fz : Nat × Nat} (hw : Grown1 w w' (.cells vals t fz)) (hfz : ∀ i, i < vals.size → ¬ inFz fz i)
    {sz cap : Nat} (hsp : 0 < sz) {xs : List AV} (hcap : xs.length ≤ cap) (hm : cap ≤ maxLen) (hl : cap * sz ≤ vals.size) (hsz : ∀ e, e ∈ xs → e.cells.length = sz)
    (hr : ∀ (i : Nat) (e : AV) (j : Nat) (c : AV), xs[i]? = some e → e.cells[j]? = some c → ∃ v, vals[i * sz + j]? = some v ∧ v.oneCell' = true ∧ Rep G.F w (fun _ => none) v c) :
    let G1 : Gh := { F := fun b o => G.F b o ∨ (b = w.heap.size ∧ o < xs.length * sz), ι := G.ι, κ := setI G.κ i (w.heap.size, xs.length * sz, cap * sz), O := setI G.O w.heap.size (.inr i) }
    Good E B G1 w' ∧ FrH G w G1 w' [.tok i] ∧ RepTok G1 w' i (some 1) ∧ (cap = xs.length → RepTok G1 w' i (some 2)) ∧ RepSlot G1 w' (.slice (some ⟨w.heap.size, 0, none⟩) xs.length cap) (.list sz xs) (some i) := by
  intro G1
  have hne : ∀ b i, G.O b = some i → b ≠ w.heap.size := fun b i hi => Nat.ne_of_lt (h.own b i hi).1
  have hx : Ext G w G1 w' := ⟨fun _ _ x => .inl x, fun _ _ x => x, fun j r hj => by
    have : j ≠ i := fun e => by rw [e, hi] at hj; cases hj
    show setI _ _ _ j = some r
    rw [setI_other _ _ this]; exact hj, fun b o hb => cell_congr (hw.old b (h.fin b o hb))⟩
  refine ⟨h.step (by rw [hw.size]; omega) (fun b hb _ => hw.old b hb) (fun b o hb => hx.w b o hb) (fun _ _ x => .inl x) (fun b o hb => ?_) (fun b j hj => ?_) hw.os hw.tape hw.output hx, ⟨hx, fun j c _ hc => ?_, fun j c hj hc => ?_⟩, ?_, fun he => ⟨w.heap.size, xs.length * sz, by show setI G.κ i (w.heap.size, xs.length * sz, cap * sz) i = _; rw [setI_same, he]⟩, ?_, ?_⟩
  · rcases hb with hb | ⟨hb, _⟩
    · exact ⟨by rw [hw.size]; have := h.fin b o hb; omega, .inl hb⟩
    · subst hb; exact ⟨by rw [hw.size]; omega, .inr (.inl (Nat.le_refl _))⟩
  · by_cases hb : b = w.heap.size
    · subst hb; exact ⟨by rw [hw.size]; omega, .inl (Nat.le_refl _)⟩
    · have hj' : G.O b = some j := by rw [← hj]; exact (setI_other _ _ hb).symm
      exact ⟨by rw [hw.size]; have := (h.own b j hj').1; omega, .inr (by rw [hj']; simp)⟩
  · refine hc.keep hx (fun x => x) fun g hg => ⟨?_, hw.old g (h.own g _ hg).1, fun x hx' => ?_⟩
    · show setI _ _ _ g = _
      rw [setI_other _ _ (hne g _ hg)]; exact hg
    · rcases hx' with hx' | ⟨hx', _⟩
      · exact hx'
      · exact absurd hx' (hne g _ hg)
  · have hne' : j ≠ i := fun e => hj (by simp [e])
    refine hc.keep hx (fun hn => by show setI _ _ _ j = none; rw [setI_other _ _ hne']; exact hn) fun g hg => ⟨?_, hw.old g (h.own g _ hg).1, fun x hx' => ?_⟩
    · show setI _ _ _ g = _
      rw [setI_other _ _ (hne g _ hg)]; exact hg
    · rcases hx' with hx' | ⟨hx', _⟩
      · exact hx'
      · exact absurd hx' (hne g _ hg)
  · refine ⟨w.heap.size, xs.length * sz, cap * sz, setI_same .., fun _ => ⟨setI_same .., fun x hx' hF => ?_, vals, t, fz, hw.new, hl, fun x _ hx2 => hfz x (by omega)⟩⟩
    rcases hF with hF | ⟨_, hF⟩
    · exact absurd (h.fin _ _ hF) (Nat.lt_irrefl _)
    · omega
  · have hvals : ∃ vf : Nat → Nat → Value, ∀ (i : Nat) (e : AV) (j : Nat) (c : AV), xs[i]? = some e → e.cells[j]? = some c → vals[i * sz + j]? = some (vf i j) ∧ (vf i j).oneCell' = true ∧ Rep G.F w (fun _ => none) (vf i j) c := by
      refine ⟨fun i j => vals.getD (i * sz + j) undef, fun i e j c he hc => ?_⟩
      obtain ⟨v, v1, v2, v3⟩ := hr i e j c he hc
      have : vals.getD (i * sz + j) undef = v := by rw [Array.getD_eq_getD_getElem?, v1]; rfl
      simp only [this]
      exact ⟨v1, v2, v3⟩
    obtain ⟨vf, hvf⟩ := hvals
    refine .list _ _ 0 _ _ _ _ vf rfl hcap hm hsz (fun j hj => .inr ⟨rfl, by omega⟩) (fun i e j c he hc => ?_) (fun i e j c he hc => ?_)
    · obtain ⟨a1, a2, _⟩ := hvf i e j c he hc
      rw [cell_at hw.new, Nat.zero_add]; exact ⟨a1, a2⟩
    · exact (hvf i e j c he hc).2.2.mono hx.F hx.w _ (fun _ _ h => h)
  · refine .inl ⟨sz, xs, xs.length, cap, w.heap.size, xs.length * sz, cap * sz, some ⟨w.heap.size, 0, none⟩, rfl, rfl, setI_same .., rfl, hcap, hm, ?_⟩
    rcases Nat.lt_or_ge (xs.length * sz) (cap * sz) with hlt | hge
    · exact .inr ⟨hlt, 0, rfl, by omega, by omega⟩
    · exact .inl (Nat.le_antisymm hcap (Nat.le_of_mul_le_mul_right hge hsp))
structure Wrote (w w' : World) (g lo : Nat) (us : List Value) : Prop where
  size : w'.heap.size = w.heap.size
  old : ∀ b, b ≠ g → w'.heap[b]? = w.heap[b]?
  os : w'.os = w.os
  tape : w'.tape = w.tape
  output : w'.output = w.output
  new : ∀ vals t fz, w.heap[g]? = some (.cells vals t fz) → ∃ vals', w'.heap[g]? = some (.cells vals' t fz) ∧ vals'.size = vals.size ∧ ∀ x, vals'[x]? = if lo ≤ x ∧ x < lo + us.length then us[x - lo]? else vals[x]?
theorem run_stores {P : Program} (g o : Nat) : ∀ (us : List Value) (i : Nat) (w : World) (vals : Array Value) (t : TypeId) (fz : Nat × Nat), w.heap[g]? = some (.cells vals t fz) →
    (∀ x, o + i ≤ x → x < o + i + us.length → x < vals.size ∧ ¬ inFz fz x) → (∀ u, u ∈ us → u.oneCell' = true) → ∃ w', (storeCells ⟨g, o, none⟩ us i).run P w = .ok () w' ∧ Wrote w w' g (o + i) us := by
  intro us
  induction us with
  | nil =>
    intro i w vals t fz hw _ _
    refine ⟨w, rfl, rfl, fun _ _ => rfl, rfl, rfl, rfl, fun vals t fz h => ⟨vals, h, rfl, fun x => ?_⟩⟩
    rw [if_neg (by intro h; simp at h <;> omega)]
  | cons u us ih =>
    intro i w vals t fz hw hx h1
    have h0 := hx (o + i) (Nat.le_refl _) (by simp)
    have hc : w.cell? ⟨g, o + i, none⟩ = some vals[o + i] := by rw [cell_at hw]; exact Array.getElem?_eq_getElem h0.1
    have hf : w.frozen? ⟨g, o + i, none⟩ = false := by
      have := h0.2
      simp only [inFz] at this
      simp only [World.frozen?, hw]
      obtain ⟨f1, f2⟩ := fz
      simp at this ⊢
      omega
    have hst : (store ((⟨g, o, none⟩ : Addr).add i) u).run P w = .ok () (w.setCell ⟨g, o + i, none⟩ u) := by
      rw [add_plain, run_store P w _ u _ (h1 u (List.mem_cons_self ..)), hc]
      simp [hf]
    have hw1 : (w.setCell ⟨g, o + i, none⟩ u).heap[g]? = some (.cells (vals.setIfInBounds (o + i) u) t fz) := by
      simp [World.setCell, Array.getElem?_modify, hw]
    obtain ⟨w', hr, hwr⟩ := ih (i + 1) (w.setCell ⟨g, o + i, none⟩ u) _ t fz hw1 (fun x a b => by
      have := hx x (by omega) (by simp; omega)
      simpa using this) (fun v hv => h1 v (List.mem_cons_of_mem _ hv))
    refine ⟨w', by simp only [storeCells, Sem.run_bind, hst, Result.andThen_ok, hr], by rw [hwr.size]; simp, fun b hb => ?_, hwr.os, hwr.tape, hwr.output, fun vals2 t2 fz2 h2 => ?_⟩
    · rw [hwr.old b hb]; exact Below.heap_setCell _ _ _ _ (by simpa using hb)
    · rw [hw] at h2
      injection h2 with h2
      injection h2 with e1 e2 e3
      subst e1 e2 e3
      obtain ⟨vals', n1, n2, n3⟩ := hwr.new _ _ _ hw1
      refine ⟨vals', n1, by simpa using n2, fun x => ?_⟩
      rw [n3]
      by_cases hx0 : x = o + i
      · subst hx0
        rw [if_neg (by omega), if_pos (by simp)]
        simp [h0.1]
      · by_cases hin : o + (i + 1) ≤ x ∧ x < o + (i + 1) + us.length
        · rw [if_pos hin, if_pos (by simp; omega)]
          rw [show x - (o + i) = (x - (o + (i + 1))) + 1 by omega]
          rfl
        · rw [if_neg hin, if_neg (by simp; omega)]
          simp [Ne.symm hx0]
def splice (cs : List AV) (off : Nat) (xs : List AV) : List AV := cs.take off ++ (xs ++ cs.drop (off + xs.length))
theorem splice_get (cs : List AV) (off : Nat) (xs : List AV) (h : off + xs.length ≤ cs.length) (j : Nat) : (splice cs off xs)[j]? = if off ≤ j ∧ j < off + xs.length then xs[j - off]? else cs[j]? := by
  have hl : (cs.take off).length = off := by simp; omega
  unfold splice
  rcases Nat.lt_or_ge j off with h1 | h1
  · rw [List.getElem?_append_left (by omega), if_neg (by omega), List.getElem?_take, if_pos h1]
  · rw [List.getElem?_append_right (by omega), hl]
    rcases Nat.lt_or_ge j (off + xs.length) with h2 | h2
    · rw [List.getElem?_append_left (by omega), if_pos ⟨h1, h2⟩]
    · rw [List.getElem?_append_right (by omega), if_neg (by omega), List.getElem?_drop]
      congr 1; omega
theorem splice_len (cs : List AV) (off : Nat) (xs : List AV) (h : off + xs.length ≤ cs.length) : (splice cs off xs).length = cs.length := by
  unfold splice; simp; omega
def tagSplice (tg : List (Nat × Nat)) (off n : Nat) (tag : Option Nat) : List (Nat × Nat) :=
  (match tag with | some i => [(off, i)] | none => []) ++ tg.filter fun p => Nat.blt p.1 off || Nat.ble (off + n) p.1
theorem lookup_filter (tg : List (Nat × Nat)) (off n j : Nat) (h : ¬ (off ≤ j ∧ j < off + n)) : (tg.filter fun p => Nat.blt p.1 off || Nat.ble (off + n) p.1).lookup j = tg.lookup j := by
  induction tg with
  | nil => rfl
  | cons p tg ih =>
    obtain ⟨a, b⟩ := p
    rw [List.filter_cons]
    by_cases hp : (Nat.blt a off || Nat.ble (off + n) a) = true
    · simp only [hp, if_true, List.lookup_cons, ih]
    · simp only [hp, List.lookup_cons]
      have : (j == a) = false := by
        simp only [beq_eq_false_iff_ne]
        rintro rfl
        apply hp
        simp only [Bool.or_eq_true, Nat.blt_eq, Nat.ble_eq]
        omega
      simp only [this]
      simpa using ih
theorem lookup_filter_none (tg : List (Nat × Nat)) (off n j : Nat) (h : off ≤ j ∧ j < off + n) : (tg.filter fun p => Nat.blt p.1 off || Nat.ble (off + n) p.1).lookup j = none := by
  induction tg with
  | nil => rfl
  | cons p tg ih =>
    obtain ⟨a, b⟩ := p
    rw [List.filter_cons]
    by_cases hp : (Nat.blt a off || Nat.ble (off + n) a) = true
    · simp only [hp, if_true, List.lookup_cons]
      have : (j == a) = false := by
        simp only [beq_eq_false_iff_ne]
        rintro rfl
        simp only [Bool.or_eq_true, Nat.blt_eq, Nat.ble_eq] at hp
        omega
      simp only [this]
      exact ih
    · simp only [hp]
      simpa using ih
theorem write_obj (h : Good E B G w) {id g : Nat} (hid : G.ι id = some g) {t : TypeId} {cs : List AV} {tg : List (Nat × Nat)} (hobj : RepObj G w id (some (.cells t cs tg))) {off : Nat} {us : List Value} {xs : List AV} {tag : Option Nat}
    (hw : Wrote w w' g off us) (hl : us.length = xs.length) (hle : off + xs.length ≤ cs.length) (hpos : 0 < xs.length) (hone : ∀ u, u ∈ us → u.oneCell' = true)
    (hr : ∀ (j : Nat) (u : Value) (c : AV), us[j]? = some u → xs[j]? = some c → RepSlot G w u c (if j = 0 then tag else none)) (htag : tag = none ∨ xs.length = 1) :
    Good E B G w' ∧ FrH G w G w' [.obj id] ∧ RepObj G w' id (some (.cells t (splice cs off xs) (tagSplice tg off xs.length tag))) := by
  obtain ⟨g', i1, i2, i3, vals, fz, i4, i5, i6, i7⟩ := hobj.resolve_left (by intro h0; rw [h0] at hle; simp only [List.length_nil] at hle; omega)
  rw [hid] at i1
  injection i1 with i1
  subst i1
  have hcell : ∀ b o, G.F b o → w'.cell? ⟨b, o, none⟩ = w.cell? ⟨b, o, none⟩ := fun b o hb => cell_congr (hw.old b (fun e => i3 o (e ▸ hb)))
  have hx : Ext G w G w' := ⟨fun _ _ x => x, fun _ _ x => x, fun _ _ x => x, hcell⟩
  refine ⟨h.step (by rw [hw.size]; exact Nat.le_refl _) (fun b _ hn => hw.old b (fun e => by rw [e, i2] at hn; cases hn)) hcell (fun _ _ x => x) (fun b o hb => ⟨by rw [hw.size]; exact h.fin b o hb, .inl hb⟩) (fun b i hi => ⟨by rw [hw.size]; exact (h.own b i hi).1, .inr (by rw [hi]; simp)⟩) hw.os hw.tape hw.output hx, ⟨hx, fun i c hi hc => ?_, fun i c _ hc => ?_⟩, ?_⟩
  · refine hc.keep hx (fun x => x) fun g2 hg2 => ⟨hg2, hw.old g2 (fun e => ?_), fun _ x => x⟩
    rw [e, i2] at hg2
    injection hg2 with hg2
    injection hg2 with hg2
    exact hi (by simp [hg2])
  · refine hc.keep hx (fun x => x) fun g2 hg2 => ⟨hg2, hw.old g2 (fun e => ?_), fun _ x => x⟩
    rw [e, i2] at hg2
    injection hg2 with hg2
    cases hg2
  · obtain ⟨vals', n1, n2, n3⟩ := hw.new _ _ _ i4
    refine .inr ⟨g, hid, i2, i3, vals', fz, n1, by rw [n2]; exact i5, by rw [n2, splice_len _ _ _ hle]; exact i6, fun j c hc => ?_⟩
    rw [splice_get _ _ _ hle] at hc
    rw [n3, hl]
    by_cases hin : off ≤ j ∧ j < off + xs.length
    · rw [if_pos hin] at hc ⊢
      have hj : j - off < us.length := by omega
      refine ⟨us[j - off], List.getElem?_eq_getElem hj, hone _ (List.getElem_mem hj), ?_⟩
      have h1 := hr (j - off) _ _ (List.getElem?_eq_getElem hj) hc
      have htl : (tagSplice tg off xs.length tag).lookup j = if j - off = 0 then tag else none := by
        unfold tagSplice
        cases tag with
        | none =>
          rw [List.nil_append, lookup_filter_none _ _ _ _ hin]
          split <;> rfl
        | some i =>
          have hx1 : xs.length = 1 := htag.resolve_left (by simp)
          have : j = off := by omega
          subst this
          simp
      rw [htl]
      exact h1.ext hx
    · rw [if_neg hin] at hc ⊢
      obtain ⟨v, v1, v2, v3⟩ := i7 j c hc
      refine ⟨v, v1, v2, ?_⟩
      have htl : (tagSplice tg off xs.length tag).lookup j = tg.lookup j := by
        unfold tagSplice
        cases tag with
        | none => rw [List.nil_append, lookup_filter _ _ _ _ hin]
        | some i =>
          have hx1 : xs.length = 1 := htag.resolve_left (by simp)
          have : (j == off) = false := by simp; omega
          simp only [List.singleton_append, List.lookup_cons, this]
          exact lookup_filter _ _ _ _ hin
      rw [htl]
      exact v3.ext hx
end
end Go.Pm
