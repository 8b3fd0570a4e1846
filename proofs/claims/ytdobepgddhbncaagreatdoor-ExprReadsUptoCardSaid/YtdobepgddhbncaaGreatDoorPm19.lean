/-
  Generic: functions that are handed one object.
-/
import Derived.Test.YtdobepgddhbncaaGreatDoorPm18
namespace Go.Pm
open Go Go.RowKit
set_option linter.unusedVariables false
set_option linter.unusedSimpArgs false
def one (n i : Nat) (x : AObj) : List AObj := (List.replicate n .dead).set i x
theorem uZ (n i : Nat) (x : AObj) : (one n i x).length = n := by simp [one]
theorem aH9 {n i : Nat} (x : AObj) (h : i < n) : (one n i x)[i]? = some x := by simp [one, h]
theorem aJk {n i j : Nat} {x y : AObj} (hy : y ≠ .dead) (h : (one n i x)[j]? = some y) : j = i /\ x = y := by
  unfold one at h
  rw [List.getElem?_set] at h
  split at h
  · split at h
    · injection h with h
      exact ⟨by omega, h⟩
    · cases h
  · rw [List.getElem?_replicate] at h
    split at h
    · injection h with h; exact absurd h.symm hy
    · cases h
theorem one_cells {n i j : Nat} {x : AObj} {t cs tg} (h : (one n i x)[j]? = some (.cells t cs tg)) : j = i /\ x = .cells t cs tg := by
  unfold one at h
  rw [List.getElem?_set] at h
  split at h
  · split at h
    · injection h with h
      exact ⟨by omega, h⟩
    · cases h
  · rw [List.getElem?_replicate] at h
    split at h
    · cases h
    · cases h
theorem NoId.idP {n : Nat} {a : AV} (h : NoId n a) : n = 0 -> a.puB = true -> IdP (fun _ => False) a := by
  intro hn
  subst hn
  induction h with
  | any => intro h; cases h
  | bool => intro _; exact .bool _
  | int => intro _; exact .int ..
  | str => intro _; exact .str _
  | list => intro _; exact .list ..
  | row _ _ _ h => omega
  | agg => intro h; cases h
  | tup => intro h; cases h
  | ptr _ _ h => omega
  | iptr => intro _; exact .iptr _
  | nilp => intro _; exact .nilp
  | fn f a b _ _ _ _ =>
    intro h
    unfold AV.puB at h
    split at h <;> first | cases h | skip
    all_goals (rename_i heq; first | (injection heq with h1 h2 h3; subst h1 h2 h3; exact .fn _ _ _ (by simp) (by simp)) | cases heq)
  | nilf => intro _; exact .nilf
  | iface t v _ ih => intro h; exact .iface _ _ (ih (by simpa [AV.puB] using h))
  | nili => intro _; exact .nili
  | glob => intro _; exact .glob _
  | mapv _ h => omega
  | cond0 => intro h; cases h
  | cond => intro h; cases h
theorem u0 {a : AV} (h : a.puB = true) (p : Nat -> Prop) : IdP p a := ((AV.puB_ok h).idP rfl h).mono fun _ h => h.elim
def tokB (k : List Nat) (n j : Nat) : Bool :=
  match k[j]? with
  | some 0 => false
  | some _ => true
  | none => Nat.blt j n
theorem aKP {k : List Nat} {n j : Nat} (h : tokB k n j = true) : tokP k n j := by
  unfold tokB at h
  split at h
  · cases h
  · rename_i x hx hk
    cases x with
    | zero => exact absurd rfl hx
    | succ x => exact .inl ⟨x, hk⟩
  · rename_i hk
    refine .inr ⟨?_, by simpa [Nat.blt_eq] using h⟩
    rcases Nat.lt_or_ge j k.length with hh | hh
    · rw [List.getElem?_eq_getElem hh] at hk; cases hk
    · exact hh
def tgsB (k : List Nat) (n : Nat) (tg : List (Nat × Nat)) : Bool := tg.all fun p => tokB k n p.2
theorem aIa {k : List Nat} {n : Nat} {tg : List (Nat × Nat)} (h : tgsB k n tg = true) : ∀ j i', tg.lookup j = some i' -> tokP k n i' := fun _ _ hl => aKP (List.all_eq_true.1 h _ (tQ hl))
theorem z2.self {m : Nat} {ρ : Nat -> Nat} : ∀ {l : List AObj}, (∀ x, x ∈ l -> KeepO m ρ x x) -> z2 m ρ l l
  | [], _ => trivial
  | _ :: _, h => ⟨h _ (List.mem_cons_self ..), z2.self fun x hx => h x (List.mem_cons_of_mem _ hx)⟩
theorem Gho.one {E : Env} {st : St} (L : List Slot) {n i : Nat} {t : TypeId} {cs : List AV} {tg : List (Nat × Nat)} {k : List Nat} (hH : st.H = Pm.one n i (.cells t cs tg)) (hk : st.k = k) (pc : cs.all (AV.noB n) = true) (pg : tgOk k.length (fun i => i) tg tg = true) (p2 : k.all (fun x => Nat.ble x 2) = true)
    (hL : aH7 st n k.length (fun i => i) L) : Gho E n k.length st (St.of L (Pm.one n i (.cells t cs tg)) k) := by
  refine .of L _ k (fun i => i) (fun x hx => ?_) (fun j t1 cs1 tg1 hj => ?_) ?_ ⟨fun j hj => ?_, fun _ _ _ _ _ _ e => e⟩ (by rw [uZ]; exact Nat.le_refl _) fun j hj => ⟨hj, rfl⟩
  · have := hL.at_ x hx
    rw [uZ]; exact this
  · obtain ⟨rfl, hx⟩ := one_cells hj
    injection hx with h1 h2 h3
    subst h1 h2 h3
    rw [uZ]
    exact fun c hc => AV.noB_ok (List.all_eq_true.1 pc c hc)
  · rw [hH]
    refine z2.self fun x hx => ?_
    obtain ⟨j, hj, rfl⟩ := List.getElem_of_mem hx
    cases hy : (Pm.one n i (.cells t cs tg))[j] with
    | dead => trivial
    | mp => rfl
    | cells t1 cs1 tg1 =>
      obtain ⟨rfl, hxx⟩ := one_cells ((List.getElem?_eq_getElem hj).trans (congrArg some hy))
      injection hxx with h1 h2 h3
      subst h1 h2 h3
      exact ⟨rfl, rfl, pg⟩
  · rw [hk]
    have := List.all_eq_true.1 p2 _ (List.getElem_mem hj)
    rw [List.getElem?_eq_getElem hj]
    have h2 : k[j] <= 2 := Nat.le_of_ble_eq_true this
    match hx : k[j], h2 with
    | 0, _ => exact .inl rfl
    | 1, _ => exact .inr (.inl ⟨rfl, rfl⟩)
    | 2, _ => exact .inr (.inr ⟨rfl, rfl⟩)
theorem optE.one {n i : Nat} {x : AObj} {K : AObj -> Prop} (hi : i < n) (h : K x) : optE (Pm.one n i x)[i]? K := optE.mk (aH9 x hi) h
theorem z7 : ∀ (l : List AObj) (i : Nat) (ids : List Nat), (∀ j, j < l.length -> ids.contains (i + j) = true) -> n8 ids i l = l
  | [], _, _, _ => rfl
  | x :: l, i, ids, h => by
    have h0 := h 0 (by simp)
    rw [Nat.add_zero] at h0
    rw [n8, h0, aNP, z7 l (i + 1) ids fun j hj => by rw [Nat.add_assoc, Nat.add_comm 1 j]; exact h (j + 1) (by simpa using hj)]
theorem z8 : ∀ (l : List Nat) (i : Nat) (ids : List Nat), (∀ j, j < l.length -> ids.contains (i + j) = true) -> pN ids i l = l
  | [], _, _, _ => rfl
  | x :: l, i, ids, h => by
    have h0 := h 0 (by simp)
    rw [Nat.add_zero] at h0
    rw [pN, h0, aNP, z8 l (i + 1) ids fun j hj => by rw [Nat.add_assoc, Nat.add_comm 1 j]; exact h (j + 1) (by simpa using hj)]
theorem aGt {n i : Nat} {x y : AObj} (hx : x ≠ .dead) (hi : i < n) : nO (one n i x) (one n i x) (one n i y) = one n i y := by
  refine List.ext_getElem? fun j => ?_
  by_cases hj : j = i
  · subst hj
    exact nP rfl ((uZ ..).trans (uZ ..).symm) hx (aH9 _ hi)
  · rw [o8 rfl ((uZ ..).trans (uZ ..).symm) fun x1 hx1 h => hj (aJk hx1 h).1]
    simp [one, List.getElem?_set, show i ≠ j from fun h => hj h.symm]
theorem aK.one {E : Env} {P : Program} {st : St} {f : FuncId} {args : List AV} {N0 : List Loc} {k : KH} {n i : Nat} {x y : AObj} {r : AV} {tag : Option Nat} {k0 k' k'' : List Nat} (hi : i < n) (hx : x ≠ .dead) (hH : st.H = Pm.one n i x) (hk0 : st.k = k0)
    (h : FnW E P f args (Pm.one n i x) k0 r tag (Pm.one n i y) k') (hm : o6 k0 k0 k' = k'') (hk : ∀ N W, k r tag (Pm.one n i y) k'' N W) : aK E P st f args N0 k := by
  have hc : ∀ m j, j < m -> (List.range m).contains (0 + j) = true := fun m j hj => by simpa using hj
  refine .objs (List.range st.H.length) (List.range st.k.length) r tag (Pm.one n i y) k' ?_ ?_
  · rw [z7 _ _ _ (hc _), z8 _ _ _ (hc _), hH, hk0]; exact h
  · rw [z7 _ _ _ (hc _), z8 _ _ _ (hc _), hH, hk0, aGt hx hi, hm]; exact hk _ _
end Go.Pm
