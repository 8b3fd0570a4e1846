/-
  Generic: what makes the texts about functions short.
-/
import Derived.Test.YtkfoahoplndelaaGreatDoorPm16
namespace Go.Pm
open Go Go.RowKit
set_option linter.unusedSimpArgs false

def AV.noB (n : Nat) : AV → Bool
  | .ptr id _ | .row id _ _ => Nat.blt id n
  | .mapv id => Nat.blt id n
  | .agg cs => cs.all fun c => match c with
    | .ptr id _ | .row id _ _ => Nat.blt id n
    | .fn _ a b => a.all AV.puB && b.all AV.puB
    | c => AV.puB c
  | .fn _ a b => (a.all fun c => match c with
    | .ptr id _ | .row id _ _ => Nat.blt id n
    | c => AV.puB c) && b.all fun c => match c with
    | .ptr id _ | .row id _ _ => Nat.blt id n
    | c => AV.puB c
  | .any => true
  | a => AV.puB a

theorem NoId.up {n m : Nat} {a : AV} (h : NoId n a) (hnm : n ≤ m) : NoId m a := by
  induction h with
  | any => exact .any
  | bool => exact .bool _
  | int => exact .int ..
  | str => exact .str _
  | list => exact .list ..
  | row _ _ _ h => exact .row _ _ _ (by omega)
  | agg _ _ ih => exact .agg _ ih
  | tup _ _ ih => exact .tup _ ih
  | ptr _ _ h => exact .ptr _ _ (by omega)
  | iptr => exact .iptr _
  | nilp => exact .nilp
  | fn _ _ _ _ _ i1 i2 => exact .fn _ _ _ i1 i2
  | nilf => exact .nilf
  | iface _ _ _ ih => exact .iface _ _ ih
  | nili => exact .nili
  | glob => exact .glob _
  | mapv _ h => exact .mapv _ (by omega)
  | cond0 => exact .cond0 _
  | cond _ _ _ ih => exact .cond _ _ ih

theorem noB1 {n : Nat} {c : AV} (h : (match c with
    | .ptr id _ | .row id _ _ => Nat.blt id n
    | c => AV.puB c) = true) : NoId n c := by
  split at h
  · exact .ptr _ _ (by simpa [Nat.blt_eq] using h)
  · exact .row _ _ _ (by simpa [Nat.blt_eq] using h)
  · exact (AV.puB_ok h).up (Nat.zero_le _)

theorem AV.noB_ok {n : Nat} {a : AV} (h : a.noB n = true) : NoId n a := by
  unfold AV.noB at h
  split at h
  · exact .ptr _ _ (by simpa [Nat.blt_eq] using h)
  · exact .row _ _ _ (by simpa [Nat.blt_eq] using h)
  · exact .mapv _ (by simpa [Nat.blt_eq] using h)
  · refine .agg _ fun c hc => ?_
    have := List.all_eq_true.1 h c hc
    split at this
    · exact .ptr _ _ (by simpa [Nat.blt_eq] using this)
    · exact .row _ _ _ (by simpa [Nat.blt_eq] using this)
    · simp only [Bool.and_eq_true, List.all_eq_true] at this
      exact .fn _ _ _ (fun c hc => (AV.puB_ok (this.1 c hc)).up (Nat.zero_le _)) fun c hc => (AV.puB_ok (this.2 c hc)).up (Nat.zero_le _)
    · exact (AV.puB_ok this).up (Nat.zero_le _)
  · simp only [Bool.and_eq_true] at h
    exact .fn _ _ _ (fun c hc => noB1 (List.all_eq_true.1 h.1 c hc)) fun c hc => noB1 (List.all_eq_true.1 h.2 c hc)
  · exact .any
  · exact (AV.puB_ok h).up (Nat.zero_le _)

/-- The slots kept. -/
def KeepL (st : St) (n m : Nat) (ρ : Nat → Nat) : List Slot → Prop
  | [] => True
  | x :: L => st.s x.t = x.v ∧ x.v.noB n = true ∧ (match x.tag with
    | none => True
    | some i => Nat.blt i m = true ∧ st.g x.t = some (ρ i)) ∧ KeepL st n m ρ L
theorem KeepL.at_ {st : St} {n m : Nat} {ρ : Nat → Nat} : ∀ {L : List Slot}, KeepL st n m ρ L → ∀ x, x ∈ L → st.s x.t = x.v ∧ NoId n x.v ∧ ∀ i, x.tag = some i → i < m ∧ st.g x.t = some (ρ i)
  | [], _, x, hx => by cases hx
  | y :: L, h, x, hx => by
    rcases List.mem_cons.1 hx with rfl | hx
    · refine ⟨h.1, AV.noB_ok h.2.1, fun i hi => ?_⟩
      have := h.2.2.1
      rw [hi] at this
      exact ⟨by simpa [Nat.blt_eq] using this.1, this.2⟩
    · exact h.2.2.2.at_ x hx

/-- The objects' cells name no object behind the kept ones. -/
def keepN (n : Nat) : List AObj → Bool
  | [] => true
  | .dead :: H | .mp .. :: H => keepN n H
  | .cells _ cs _ :: H => cs.all (AV.noB n) && keepN n H
theorem keepN_at {n : Nat} : ∀ {H : List AObj}, keepN n H = true → ∀ (i : Nat) t cs tg, H[i]? = some (.cells t cs tg) → ∀ c, c ∈ cs → NoId n c
  | [], _, i, t, cs, tg, h => by simp at h
  | x :: H, hk, i, t, cs, tg, h => by
    cases i with
    | zero =>
      simp only [List.getElem?_cons_zero, Option.some.injEq] at h
      subst h
      simp only [keepN, Bool.and_eq_true, List.all_eq_true] at hk
      exact fun c hc => AV.noB_ok (hk.1 c hc)
    | succ i =>
      refine keepN_at (H := H) ?_ i t cs tg (by simpa using h)
      cases x with
      | dead => exact hk
      | mp => exact hk
      | cells => simp only [keepN, Bool.and_eq_true] at hk; exact hk.2

/-- Tokens, one by one: 'r' names where each one comes from. -/
def keepK (k : List Nat) : List Nat → List Nat → Bool
  | [], [] => true
  | i :: r, x :: k' => (match x with
    | 0 => true
    | 1 => k[i]?.any (Nat.blt 0)
    | 2 => (match k[i]? with | some 2 => true | _ => false)
    | _ => false) && !(r.contains i) && keepK k r k'
  | _, _ => false

theorem keepK_len {k : List Nat} : ∀ {r k' : List Nat}, keepK k r k' = true → r.length = k'.length
  | [], [], _ => rfl
  | i :: r, x :: k', h => by
    simp only [keepK, Bool.and_eq_true] at h
    simp [keepK_len h.2]
theorem keepK_at {k : List Nat} : ∀ {r k' : List Nat}, keepK k r k' = true → ∀ i, i < k'.length → k'[i]? = some 0 ∨ (k'[i]? = some 1 ∧ (k[r.getD i 0]?.any (Nat.blt 0)) = true) ∨ (k'[i]? = some 2 ∧ k[r.getD i 0]? = some 2)
  | [], [], _, i, hi => by simp at hi
  | j :: r, x :: k', h, i, hi => by
    simp only [keepK, Bool.and_eq_true] at h
    cases i with
    | zero =>
      simp only [List.getElem?_cons_zero, Option.some.injEq, List.getD_cons_zero]
      have := h.1.1
      split at this
      · exact .inl rfl
      · exact .inr (.inl ⟨rfl, this⟩)
      · refine .inr (.inr ⟨rfl, ?_⟩)
        split at this
        · assumption
        · cases this
      · cases this
    | succ i =>
      have := keepK_at h.2 i (by simpa using hi)
      simpa using this
theorem keepK_inj {k : List Nat} : ∀ {r k' : List Nat}, keepK k r k' = true → ∀ i j, i < k'.length → j < k'.length → r.getD i 0 = r.getD j 0 → i = j
  | [], [], _, i, _, hi, _ => by simp at hi
  | x :: r, _ :: k', h, i, j, hi, hj => by
    have hl := keepK_len h
    simp only [keepK, Bool.and_eq_true, Bool.not_eq_true', List.contains_eq_mem, decide_eq_false_iff_not] at h
    have hl' : r.length = k'.length := by simpa using hl
    have hm : ∀ i, i < k'.length → r.getD i 0 ∈ r := fun i hi => by
      simp only [List.getD, show i < r.length by omega, List.getElem?_eq_getElem, Option.getD_some]
      exact List.getElem_mem _
    cases i with
    | zero => cases j with
      | zero => intro _; rfl
      | succ j => intro e; simp only [List.getD_cons_zero, List.getD_cons_succ] at e; exact absurd (e ▸ hm j (by simpa using hj)) h.1.2
    | succ i => cases j with
      | zero => intro e; simp only [List.getD_cons_zero, List.getD_cons_succ] at e; exact absurd (e ▸ hm i (by simpa using hi)) h.1.2
      | succ j => intro e; simp only [List.getD_cons_succ] at e; rw [keepK_inj h.2 i j (by simpa using hi) (by simpa using hj) e]

def idOn (nk m : Nat) (r : List Nat) : Bool := (List.range nk).all fun j => Nat.blt j m && Nat.beq (r.getD j 0) j

/-- The weakening, told by tests. -/
theorem Gho.to {E : Env} {nb nk : Nat} {st : St} (L : List Slot) (H : List AObj) (k : List Nat) (r : List Nat) (hH : KeepH k.length (fun i => r.getD i 0) st.H H) (hN : keepN H.length H = true) (hK : keepK st.k r k = true) (hb : Nat.ble nb H.length = true) (hi : idOn nk k.length r = true)
    (hL : KeepL st H.length k.length (fun i => r.getD i 0) L) : Gho E nb nk st (St.of L H k) :=
  .of L H k (fun i => r.getD i 0) hL.at_ (keepN_at hN) hH ⟨keepK_at hK, fun i j hi hj _ _ e => keepK_inj hK i j hi hj e⟩ (Nat.le_of_ble_eq_true hb) fun j hj => by
    have := List.all_eq_true.1 hi j (List.mem_range.2 hj)
    simp only [Bool.and_eq_true, Nat.blt_eq] at this
    exact ⟨this.1, Nat.eq_of_beq_eq_true this.2⟩
/-- With no object and no token kept. -/
theorem Gho.to0 {E : Env} {st : St} (L : List Slot) (hL : KeepL st 0 0 (fun i => [].getD i 0) L) : Gho E 0 0 st (St.of L [] []) :=
  .to L [] [] [] (by cases st.H <;> trivial) rfl (by cases st.k <;> rfl) rfl rfl hL

theorem LoopE.of {E : Env} {nb nk : Nat} {body : (Exit → St → Prop) → St → Prop} {K : Exit → St → Prop} {st : St} {α : Type} (S : α → St) (μ : α → Nat) (x0 : α) (h1 : Gho E nb nk st (S x0))
    (h2 : ∀ x, body (fun e s => match e with | .normal => ∃ x', μ x' < μ x ∧ Gho E nb nk s (S x') | e => K e s) (S x)) : LoopE E nb nk body K st := ⟨α, S, μ, x0, h1, h2⟩

theorem and_l {a b : Bool} (h : (a && b) = true) : a = true := by cases a <;> simp_all
theorem and_r {a b : Bool} (h : (a && b) = true) : b = true := by cases a <;> simp_all

theorem Wf.list_len {sz : Nat} {xs : List AV} (h : Wf (.list sz xs)) : xs.length ≤ maxLen := by cases h; assumption
theorem Wf.str_len {s : Bytes} (h : Wf (.str s)) : s.length ≤ maxLen := by cases h; assumption
theorem Wf.bytes_len {s : Bytes} (h : Wf (.list 1 (s.map byteAV))) : s.length ≤ maxLen := by have := h.list_len; simpa using this

theorem i64_ok {n : Int} (h : -9223372036854775808 ≤ n) (h' : n ≤ 9223372036854775807) : IntKind.i64.wrap n = n := IntWalk.i64_in n (by omega)
theorem i64_inc {n m : Nat} (h : n < m) (hm : m ≤ maxLen) : IntKind.i64.wrap ((n : Int) + 1) = ((n + 1 : Nat) : Int) := by
  unfold maxLen at hm
  rw [i64_ok (by omega) (by omega)]; rfl

theorem get_map_byte {s : List UInt8} {i : Nat} (h : i < s.length) : (s.map byteAV)[((i : Nat) : Int).toNat]? = some (byteAV s[i]) := by simp [h]

theorem splice_one {cs : List AV} {off : Nat} {x : AV} (h : off < cs.length) : splice cs off [x] = cs.set off x := by
  refine List.ext_getElem? fun j => ?_
  rw [splice_get _ _ _ (by simp; omega), List.getElem?_set]
  by_cases hj : off = j
  · subst hj; simp [h]
  · rw [if_neg (by simp; omega), if_neg hj]
theorem splice_all {cs xs : List AV} (h : xs.length = cs.length) : splice cs 0 xs = xs := by
  unfold splice
  simp [h]

end Go.Pm
