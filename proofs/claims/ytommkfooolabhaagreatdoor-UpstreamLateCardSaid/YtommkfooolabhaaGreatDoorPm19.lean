/-
  Generic: functions that are handed one object.
-/
import Derived.Test.YtommkfooolabhaaGreatDoorPm18
namespace Go.Pm
open Go Go.RowKit
set_option linter.unusedVariables false
set_option linter.unusedSimpArgs false
def one (n i : Nat) (x : AObj) : List AObj := (List.replicate n .dead).set i x
theorem one_len (n i : Nat) (x : AObj) : (one n i x).length = n := by simp [one]
theorem one_get {n i : Nat} (x : AObj) (h : i < n) : (one n i x)[i]? = some x := by simp [one, h]
theorem one_cells {n i j : Nat} {x : AObj} {t cs tg} (h : (one n i x)[j]? = some (.cells t cs tg)) : j = i ∧ x = .cells t cs tg := by
  unfold one at h
  rw [List.getElem?_set] at h
  split at h
  · split at h
    · injection h with h
      exact ⟨by omega, h⟩
    · cases h
  · rw [List.getElem?_replicate] at h
    split at h
    · cases h
    · cases h
theorem NoId.idP {n : Nat} {a : AV} (h : NoId n a) : n = 0 → a.puB = true → IdP (fun _ => False) a := by
  intro hn
  subst hn
  induction h with
  | any => intro h; cases h
  | bool => intro _; exact .bool _
  | int => intro _; exact .int ..
  | str => intro _; exact .str _
  | list => intro _; exact .list ..
  | row _ _ _ _ h => omega
  | rowR _ _ _ _ h => omega
  | agg => intro h; cases h
  | tup => intro h; cases h
  | ptr _ _ h => omega
  | iptr => intro _; exact .iptr _
  | nilp => intro _; exact .nilp
  | fn f a b _ _ _ _ =>
    intro h
    unfold AV.puB at h
    split at h <;> first | cases h | skip
    all_goals (rename_i heq; first | (injection heq with h1 h2 h3; subst h1 h2 h3; exact .fn _ _ _ (by simp) (by simp)) | cases heq)
  | nilf => intro _; exact .nilf
  | iface t v _ ih => intro h; exact .iface _ _ (ih (by simpa [AV.puB] using h))
  | nili => intro _; exact .nili
  | glob => intro _; exact .glob _
  | mapv _ h => omega
  | cond0 => intro h; cases h
  | cond => intro h; cases h
theorem puB_idP {a : AV} (h : a.puB = true) (p : Nat → Prop) : IdP p a := ((AV.puB_ok h).idP rfl h).mono fun _ h => h.elim
def tokB (k : List Nat) (n j : Nat) : Bool :=
  match k[j]? with
  | some 0 => false
  | some _ => true
  | none => Nat.blt j n
theorem tokB_ok {k : List Nat} {n j : Nat} (h : tokB k n j = true) : tokP k n j := by
  unfold tokB at h
  split at h
  · cases h
  · rename_i x hx hk
    cases x with
    | zero => exact absurd rfl hx
    | succ x => exact .inl ⟨x, hk⟩
  · rename_i hk
    refine .inr ⟨?_, by simpa [Nat.blt_eq] using h⟩
    rcases Nat.lt_or_ge j k.length with hh | hh
    · rw [List.getElem?_eq_getElem hh] at hk; cases hk
    · exact hh
def tgsB (k : List Nat) (n : Nat) (tg : List (Nat × Nat)) : Bool := tg.all fun p => tokB k n p.2
theorem tgsB_ok {k : List Nat} {n : Nat} {tg : List (Nat × Nat)} (h : tgsB k n tg = true) : ∀ j i', tg.lookup j = some i' → tokP k n i' := fun _ _ hl => tokB_ok (List.all_eq_true.1 h _ (lookup_mem hl))
theorem KeepH.self {m : Nat} {ρ : Nat → Nat} : ∀ {l : List AObj}, (∀ x, x ∈ l → KeepO m ρ x x) → KeepH m ρ l l
  | [], _ => trivial
  | _ :: _, h => ⟨h _ (List.mem_cons_self ..), KeepH.self fun x hx => h x (List.mem_cons_of_mem _ hx)⟩
theorem Gho.one {E : Env} {st : St} (L : List Slot) {n i : Nat} {t : TypeId} {cs : List AV} {tg : List (Nat × Nat)} {k : List Nat} (hH : st.H = Pm.one n i (.cells t cs tg)) (hk : st.k = k) (pc : cs.all (AV.noB n) = true) (pg : tgOk k.length (fun i => i) tg tg = true) (p2 : k.all (fun x => Nat.ble x 2) = true)
    (hL : KeepL st n k.length (fun i => i) L) : Gho E n k.length st (St.of L (Pm.one n i (.cells t cs tg)) k) := by
  refine .of L _ k (fun i => i) (fun x hx => ?_) (fun j t1 cs1 tg1 hj => ?_) ?_ ⟨fun j hj => ?_, fun _ _ _ _ _ _ e => e⟩ (by rw [one_len]; exact Nat.le_refl _) fun j hj => ⟨hj, rfl⟩
  · have := hL.at_ x hx
    rw [one_len]; exact this
  · obtain ⟨rfl, hx⟩ := one_cells hj
    injection hx with h1 h2 h3
    subst h1 h2 h3
    rw [one_len]
    exact fun c hc => List.all_eq_true.1 pc c hc
  · rw [hH]
    refine KeepH.self fun x hx => ?_
    obtain ⟨j, hj, rfl⟩ := List.getElem_of_mem hx
    cases hy : (Pm.one n i (.cells t cs tg))[j] with
    | dead => trivial
    | mp => rfl
    | cells t1 cs1 tg1 =>
      obtain ⟨rfl, hxx⟩ := one_cells ((List.getElem?_eq_getElem hj).trans (congrArg some hy))
      injection hxx with h1 h2 h3
      subst h1 h2 h3
      exact ⟨rfl, rfl, pg⟩
  · rw [hk]
    have := List.all_eq_true.1 p2 _ (List.getElem_mem hj)
    rw [List.getElem?_eq_getElem hj]
    have h2 : k[j] ≤ 2 := Nat.le_of_ble_eq_true this
    match hx : k[j], h2 with
    | 0, _ => exact .inl rfl
    | 1, _ => exact .inr (.inl ⟨rfl, rfl⟩)
    | 2, _ => exact .inr (.inr ⟨rfl, rfl⟩)
theorem optE.one {n i : Nat} {x : AObj} {K : AObj → Prop} (hi : i < n) (h : K x) : optE (Pm.one n i x)[i]? K := optE.mk (one_get x hi) h
end Go.Pm
