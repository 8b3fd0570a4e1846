/-
  Generic: what makes the texts about functions short.
-/
import Derived.Test.YtommkfooolabhaaGreatDoorPm16
open _root_.Bool renaming and_eq_true -> zC
open _root_.List renaming getElem?_cons_zero -> zD
open _root_.Nat renaming blt_eq -> zE
namespace Go.Pm
open Go Go.RowKit
set_option linter.unusedVariables false
set_option linter.unusedSimpArgs false
def AV.noB (n : Nat) : AV -> Bool
  | .ptr id _ | .row id _ _ _ => Nat.blt id n
  | .mapv id => Nat.blt id n
  | .rowR id _ _ _ => Nat.blt id n
  | .agg cs => cs.all fun c => match c with
    | .ptr id _ | .row id _ _ _ => Nat.blt id n
    | .fn _ a b => a.all AV.puB && b.all AV.puB
    | c => AV.puB c
  | .fn _ a b => (a.all fun c => match c with
    | .ptr id _ | .row id _ _ _ => Nat.blt id n
    | c => AV.puB c) && b.all fun c => match c with
    | .ptr id _ | .row id _ _ _ => Nat.blt id n
    | c => AV.puB c
  | .any => true
  | a => AV.puB a
theorem NoId.up {n m : Nat} {a : AV} (h : NoId n a) (hnm : n <= m) : NoId m a := by
  induction h with
  | any => exact .any
  | bool => exact .bool _
  | int => exact .int ..
  | str => exact .str _
  | list => exact .list ..
  | row _ _ _ _ h => exact .row _ _ _ _ (by omega)
  | rowR _ _ _ _ h => exact .rowR _ _ _ _ (by omega)
  | agg _ _ ih => exact .agg _ ih
  | tup _ _ ih => exact .tup _ ih
  | ptr _ _ h => exact .ptr _ _ (by omega)
  | iptr => exact .iptr _
  | nilp => exact .nilp
  | fn _ _ _ _ _ i1 i2 => exact .fn _ _ _ i1 i2
  | nilf => exact .nilf
  | iface _ _ _ ih => exact .iface _ _ ih
  | nili => exact .nili
  | glob => exact .glob _
  | mapv _ h => exact .mapv _ (by omega)
  | cond0 => exact .cond0 _
  | cond _ _ _ ih => exact .cond _ _ ih
theorem noB1 {n : Nat} {c : AV} (h : (match c with
    | .ptr id _ | .row id _ _ _ => Nat.blt id n
    | c => AV.puB c) = true) : NoId n c := by
  split at h
  · exact .ptr _ _ (by simpa [zE] using h)
  · exact .row _ _ _ _ (by simpa [zE] using h)
  · exact (AV.puB_ok h).up (Nat.zero_le _)
theorem AV.noB_ok {n : Nat} {a : AV} (h : a.noB n = true) : NoId n a := by
  unfold AV.noB at h
  split at h
  · exact .ptr _ _ (by simpa [zE] using h)
  · exact .row _ _ _ _ (by simpa [zE] using h)
  · exact .mapv _ (by simpa [zE] using h)
  · exact .rowR _ _ _ _ (by simpa [zE] using h)
  · refine .agg _ fun c hc => ?_
    have := List.all_eq_true.1 h c hc
    split at this
    · exact .ptr _ _ (by simpa [zE] using this)
    · exact .row _ _ _ _ (by simpa [zE] using this)
    · simp only [zC, List.all_eq_true] at this
      exact .fn _ _ _ (fun c hc => (AV.puB_ok (this.1 c hc)).up (Nat.zero_le _)) fun c hc => (AV.puB_ok (this.2 c hc)).up (Nat.zero_le _)
    · exact (AV.puB_ok this).up (Nat.zero_le _)
  · simp only [zC] at h
    exact .fn _ _ _ (fun c hc => noB1 (List.all_eq_true.1 h.1 c hc)) fun c hc => noB1 (List.all_eq_true.1 h.2 c hc)
  · exact .any
  · exact (AV.puB_ok h).up (Nat.zero_le _)
def oM (st : St) (n m : Nat) (ρ : Nat -> Nat) : List Slot -> Prop
  | [] => True
  | x :: L => st.s x.t = x.v /\ x.v.noB n = true /\ (match x.tag with
    | none => True
    | some i => tIn m ρ x.v i = true /\ st.g x.t = some (tRen ρ x.v i) /\ i = i) /\ oM st n m ρ L
theorem oM.at_ {st : St} {n m : Nat} {ρ : Nat -> Nat} : ∀ {L : List Slot}, oM st n m ρ L -> ∀ x, x ∈ L -> st.s x.t = x.v /\ NoId n x.v /\ ∀ i, x.tag = some i -> tIn m ρ x.v i = true /\ st.g x.t = some (tRen ρ x.v i)
  | [], _, x, hx => by cases hx
  | y :: L, h, x, hx => by
    rcases List.mem_cons.1 hx with rfl | hx
    · refine ⟨h.1, AV.noB_ok h.2.1, fun i hi => ?_⟩
      have := h.2.2.1
      rw [hi] at this
      exact ⟨this.1, this.2.1⟩
    · exact h.2.2.2.at_ x hx
def gL (n : Nat) : List AObj -> Bool
  | [] => true
  | .dead :: H | .mp .. :: H => gL n H
  | .cells _ cs _ :: H => cs.all (AV.noB n) && gL n H
theorem l8 {n : Nat} : ∀ {H : List AObj}, gL n H = true -> ∀ (i : Nat) t cs tg, H[i]? = some (.cells t cs tg) -> ∀ c, c ∈ cs -> NoId n c
  | [], _, i, t, cs, tg, h => by simp at h
  | x :: H, hk, i, t, cs, tg, h => by
    cases i with
    | zero =>
      simp only [zD, Option.some.injEq] at h
      subst h
      simp only [gL, zC, List.all_eq_true] at hk
      exact fun c hc => AV.noB_ok (hk.1 c hc)
    | succ i =>
      refine l8 (H := H) ?_ i t cs tg (by simpa using h)
      cases x with
      | dead => exact hk
      | mp => exact hk
      | cells => simp only [gL, zC] at hk; exact hk.2
def gM (i : Nat) : List Nat -> List Nat -> Bool
  | j :: r, x :: k' => (match x with | 0 => false | _ => Nat.beq i j) || gM i r k'
  | _, _ => false
theorem fG {i : Nat} : ∀ {r k' : List Nat}, gM i r k' = false -> ∀ j n, k'[j]? = some (n + 1) -> j < r.length -> r.getD j 0 ≠ i
  | [], _, _, j, n, _, hl => by simp at hl
  | _ :: _, [], _, j, n, h, _ => by simp at h
  | y :: r, x :: k', h, j, n, hj, hl => by
    unfold gM at h
    rw [Bool.or_eq_false_iff] at h
    cases j with
    | zero =>
      simp only [zD, Option.some.injEq] at hj
      subst hj
      simp only [List.getD_cons_zero]
      rintro rfl
      have := h.1
      simp at this
    | succ j =>
      simp only [List.getElem?_cons_succ] at hj
      simp only [List.getD_cons_succ]
      exact fG h.2 j n hj (by simpa using hl)
def jY (k : List Nat) : List Nat -> List Nat -> Bool
  | [], [] => true
  | i :: r, x :: k' => (match x with
    | 0 => true
    | 1 => k[i]?.any (Nat.blt 0) && !(gM i r k')
    | 2 => (match k[i]? with | some 2 => true | _ => false) && !(gM i r k')
    | _ => false) && jY k r k'
  | _, _ => false
theorem jZ {k : List Nat} : ∀ {r k' : List Nat}, jY k r k' = true -> r.length = k'.length
  | [], [], _ => rfl
  | i :: r, x :: k', h => by
    simp only [jY, zC] at h
    simp [jZ h.2]
theorem l9 {k : List Nat} : ∀ {r k' : List Nat}, jY k r k' = true -> ∀ i, i < k'.length -> k'[i]? = some 0 ∨ (k'[i]? = some 1 /\ (k[r.getD i 0]?.any (Nat.blt 0)) = true) ∨ (k'[i]? = some 2 /\ k[r.getD i 0]? = some 2)
  | [], [], _, i, hi => by simp at hi
  | j :: r, x :: k', h, i, hi => by
    simp only [jY, zC] at h
    cases i with
    | zero =>
      simp only [zD, Option.some.injEq, List.getD_cons_zero]
      have := h.1
      split at this
      · exact .inl rfl
      · rw [zC] at this; exact .inr (.inl ⟨rfl, this.1⟩)
      · rw [zC] at this
        refine .inr (.inr ⟨rfl, ?_⟩)
        have := this.1
        split at this
        · assumption
        · cases this
      · cases this
    | succ i =>
      have := l9 h.2 i (by simpa using hi)
      simpa using this
theorem j6 {k : List Nat} : ∀ {r k' : List Nat}, jY k r k' = true -> ∀ i j n m, k'[i]? = some (n + 1) -> k'[j]? = some (m + 1) -> r.getD i 0 = r.getD j 0 -> i = j
  | [], [], _, i, _, n, m, hi, _ => by simp at hi
  | x :: r, y :: k', h, i, j, n, m, hi, hj => by
    have hl := jZ h
    simp only [jY, zC] at h
    have hl' : r.length = k'.length := by simpa using hl
    have hne : ∀ q, y = q + 1 -> ∀ j2 m2, k'[j2]? = some (m2 + 1) -> r.getD j2 0 ≠ x := by
      clear hi hj
      intro q hq j2 m2 hj2
      have h1 := h.1
      have hlt : j2 < r.length := by rw [hl']; exact (List.getElem?_eq_some_iff.1 hj2).1
      split at h1
      · cases hq
      · simp only [zC, Bool.not_eq_true'] at h1; exact fG h1.2 j2 m2 hj2 hlt
      · simp only [zC, Bool.not_eq_true'] at h1; exact fG h1.2 j2 m2 hj2 hlt
      · cases h1
    cases i with
    | zero => cases j with
      | zero => intro _; rfl
      | succ j =>
        simp only [zD, Option.some.injEq] at hi
        intro e; simp only [List.getD_cons_zero, List.getD_cons_succ] at e
        exact absurd e.symm (hne n hi j m (by simpa using hj))
    | succ i => cases j with
      | zero =>
        simp only [zD, Option.some.injEq] at hj
        intro e; simp only [List.getD_cons_zero, List.getD_cons_succ] at e
        exact absurd e (hne m hj i n (by simpa using hi))
      | succ j => intro e; simp only [List.getD_cons_succ] at e; rw [j6 h.2 i j n m (by simpa using hi) (by simpa using hj) e]
def idOn (nk m : Nat) (r : List Nat) : Bool := (List.range nk).all fun j => Nat.blt j m && Nat.beq (r.getD j 0) j
theorem Gho.to {E : Env} {nb nk : Nat} {st : St} (L : List Slot) (H : List AObj) (k : List Nat) (r : List Nat) (hH : gJ k.length (fun i => r.getD i 0) st.H H) (hN : gL H.length H = true) (hK : jY st.k r k = true) (hb : Nat.ble nb H.length = true) (hi : idOn nk k.length r = true)
    (hL : oM st H.length k.length (fun i => r.getD i 0) L) : Gho E nb nk st (St.of L H k) :=
  .of L H k (fun i => r.getD i 0) hL.at_ (l8 hN) hH ⟨l9 hK, fun i j hi hj h0 h1 e => by
    have nz : ∀ i, i < k.length -> k[i]? ≠ some 0 -> ∃ n, k[i]? = some (n + 1) := fun i hi h => by
      rw [List.getElem?_eq_getElem hi] at h ⊢
      cases hx : k[i] with
      | zero => rw [hx] at h; exact absurd rfl h
      | succ n => exact ⟨n, rfl⟩
    obtain ⟨n, hn⟩ := nz i hi h0
    obtain ⟨m, hm⟩ := nz j hj h1
    exact j6 hK i j n m hn hm e⟩ (Nat.le_of_ble_eq_true hb) fun j hj => by
    have := List.all_eq_true.1 hi j (List.mem_range.2 hj)
    simp only [zC, zE] at this
    exact ⟨this.1, Nat.eq_of_beq_eq_true this.2⟩
theorem LoopE.of {E : Env} {nb nk : Nat} {body : (Exit -> St -> Prop) -> St -> Prop} {K : Exit -> St -> Prop} {st : St} {α : Type} (S : α -> St) (μ : α -> Nat) (x0 : α) (h1 : Gho E nb nk st (S x0))
    (h2 : ∀ x, body (fun e s => match e with | .normal => ∃ x', μ x' < μ x /\ Gho E nb nk s (S x') | e => K e s) (S x)) : LoopE E nb nk body K st := ⟨α, S, μ, x0, h1, h2⟩
theorem and_l {a b : Bool} (h : (a && b) = true) : a = true := by cases a <;> simp_all
theorem and_r {a b : Bool} (h : (a && b) = true) : b = true := by cases a <;> simp_all
theorem qW {n : Int} (h : -9223372036854775808 <= n) (h' : n <= 9223372036854775807) : IntKind.i64.wrap n = n := IntWalk.i64_in n (by omega)
theorem m7 {cs : List AV} {off : Nat} {x : AV} (h : off < cs.length) : splice cs off [x] = cs.set off x := by
  refine List.ext_getElem? fun j => ?_
  rw [cG _ _ _ (by simp; omega), List.getElem?_set]
  by_cases hj : off = j
  · subst hj; simp [h]
  · rw [if_neg (by simp; omega), if_neg hj]
theorem m8 {cs xs : List AV} (h : xs.length = cs.length) : splice cs 0 xs = xs := by
  unfold splice
  simp [h]
end Go.Pm
