/-
  slices.Clone, as data and as a row of the caller's own; slices.Delete of one element, in place.
-/
import Derived.Test.YtommkfooolabhaaGreatDoorPm32
import Derived.Test.YtommkfooolabhaaGreatDoorTy
namespace Go.Proofs.YtommkfooolabhaaGreatDoor
open Go Go.Pm
set_option linter.unusedSimpArgs false
set_option linter.unusedVariables false
set_option maxRecDepth 100000 in
theorem slices_Clone_Conn_row {α : Type} (E : Pm.Env) (l : List α) (q : l.length ≤ maxLen ∧ l.length * 336 ≤ 140737488355328) {f : α → AV} (hc : ∀ x, (f x).cells.length = 29 := by intro _; rfl) (hp : ∀ x, ((f x).cells).all AV.puB = true := by intro _; rfl) :
    FnN E Tryz.prog 73 [AV.list 29 (l.map f)] 48 (l.flatMap fun x => (f x).cells) l.length 29 := by
  refine FnN.of_ev (T := T) (rows := [2, 4, 7]) tOk mixed Tryz.func73 rfl (by kernel_rfl) (by kernel_rfl) rfl fun hwf => ?_
  refine SeqJ.go ?_
  refine SeqN.go ?_
  refine SeqJ.go ?_
  refine SeqJ.go ?_
  refine And.intro trivial (fun b hb => ?_)
  refine SeqN.go ?_
  refine Br.mk (fun ht => ?_) (fun ht => ?_)
  · have hl : l = [] := List.map_eq_nil_iff.1 (hb ht)
    subst hl
    refine SeqJ.go ?_
    refine SeqN.go ?_
    exact ⟨1, [], rfl, rfl, rfl⟩
  · refine SeqN.go ?_
    refine SeqJ.go ?_
    refine And.intro ⟨rfl, rfl, rfl⟩ ?_
    refine NormE.same ?_
    refine And.intro ⟨rfl, rfl, rfl⟩ ?_
    refine And.intro rfl ?_
    refine And.intro (by rw [List.length_map]; exact q) ?_
    refine Exists.intro (l.flatMap fun x => (f x).cells) (And.intro (flat_from _ _) ?_)
    refine NormE.to (AV.row 1 0 l.length 29) (fun _ => row_len _ _ _ _) ?_
    refine SeqN.go ?_
    exact ⟨1, [], rfl, rfl, allP_flat _ _ hp⟩
set_option maxRecDepth 100000 in
set_option maxRecDepth 100000 in
theorem slices_Delete_Conn_ok {α : Type} (E : Pm.Env) {H : List AObj} {k : List Nat} {ta : List (Option Nat)} {K : AV → Option Nat → List AObj → List Nat → Prop} {id n : Nat} {l l' : List α} {i j : Int} {f : α → AV}
    (hH : H[id]? = some (.cells 48 (l.flatMap fun x => (f x).cells) [])) (hn : n = l.length) (h : del l i j = some l') (hK : K (.row id 0 l'.length 29) none (H.set id (.cells 48 (l'.flatMap fun x => (f x).cells) [])) (k ++ [2]))
    (hta : Nat.ble ta.length 3 = true := by rfl) (hc : ∀ x, (f x).cells.length = 29 := by intro _; rfl) (hp : ∀ x, ((f x).cells).all AV.puB = true := by intro _; rfl) :
    FnC E Tryz.prog 42 [.row id 0 n 29, .int .i64 i, .int .i64 j] ta H k K := by
  subst hn
  obtain ⟨⟨⟨h0, h1⟩, rfl⟩, rfl⟩ := del_some h
  have hil : i.toNat < l.length := by omega
  have hidl : id < H.length := (List.getElem?_eq_some_iff.1 hH).1
  have hj : (i + 1).toNat = i.toNat + 1 := by omega
  have hfl := flat_length (fun x => (f x).cells) 29 hc l
  have hml : (i.toNat + (l.length - (i.toNat + 1))) * 29 ≤ l.length * 29 := Nat.mul_le_mul_right _ (by omega)
  have hml2 : (i.toNat + 1) * 29 + (l.length - (i.toNat + 1)) * 29 = l.length * 29 := by rw [← Nat.add_mul]; congr 1; omega
  have eM : (l.length : Int).toNat - (i + 1).toNat = l.length - (i.toNat + 1) := by omega
  have hspl : (splice (l.flatMap fun x => (f x).cells) (i.toNat * 29) (((l.flatMap fun x => (f x).cells).drop (0 + (i + 1).toNat * 29)).take (((l.length : Int).toNat - (i + 1).toNat) * 29))).length = l.length * 29 := by
    rw [splice_len _ _ _ (by rw [List.length_take, List.length_drop, hfl]; omega), hfl]
  have q1 : (i.toNat + ((l.length : Int).toNat - (i + 1).toNat)) * 29 ≤ (l.flatMap fun x => (f x).cells).length := by rw [eM, hfl]; exact hml
  have q2 : 0 + (i + 1).toNat * 29 + ((l.length : Int).toNat - (i + 1).toNat) * 29 ≤ (l.flatMap fun x => (f x).cells).length := by rw [eM, hfl, hj]; omega
  have q3 : (0 : Int) ≤ ((i.toNat + ((l.length : Int).toNat - (i + 1).toNat) : Nat) : Int) := by omega
  have q4 : ((i.toNat + ((l.length : Int).toNat - (i + 1).toNat) : Nat) : Int) ≤ (l.length : Int) := by omega
  have q5 : 0 + (l.length : Int).toNat * 29 ≤ (splice (l.flatMap fun x => (f x).cells) (i.toNat * 29) (((l.flatMap fun x => (f x).cells).drop (0 + (i + 1).toNat * 29)).take (((l.length : Int).toNat - (i + 1).toNat) * 29))).length := by rw [hspl]; omega
  have q6 : 0 + ((i.toNat + ((l.length : Int).toNat - (i + 1).toNat) : Nat) : Int).toNat * 29 + ((l.length : Int).toNat - ((i.toNat + ((l.length : Int).toNat - (i + 1).toNat) : Nat) : Int).toNat) * 29 ≤ (splice (l.flatMap fun x => (f x).cells) (i.toNat * 29) (((l.flatMap fun x => (f x).cells).drop (0 + (i + 1).toNat * 29)).take (((l.length : Int).toNat - (i + 1).toNat) * 29))).length := by rw [hspl]; omega
  have hcut : (splice (l.flatMap fun x => (f x).cells) (i.toNat * 29) (((l.flatMap fun x => (f x).cells).drop (0 + (i + 1).toNat * 29)).take (((l.length : Int).toNat - (i + 1).toNat) * 29))).take (0 + ((i.toNat + ((l.length : Int).toNat - (i + 1).toNat) : Nat) : Int).toNat * 29) = (l.eraseIdx i.toNat).flatMap fun x => (f x).cells := by
    have := flat_erase (fun x => (f x).cells) 29 hc l i.toNat hil
    rw [eM, hj, Nat.zero_add, Nat.zero_add, Int.toNat_natCast]
    exact this
  refine FnC.mono (K := fun r _ H' k' => r = .rowR id 0 (i.toNat + ((l.length : Int).toNat - (i + 1).toNat)) 29 ∧ H' = (H.set id (.cells 48 (splice (l.flatMap fun x => (f x).cells) (i.toNat * 29) (((l.flatMap fun x => (f x).cells).drop (0 + (i + 1).toNat * 29)).take (((l.length : Int).toNat - (i + 1).toNat) * 29))) [])).set id (.cells 48 ((splice (l.flatMap fun x => (f x).cells) (i.toNat * 29) (((l.flatMap fun x => (f x).cells).drop (0 + (i + 1).toNat * 29)).take (((l.length : Int).toNat - (i + 1).toNat) * 29))).take (0 + ((i.toNat + ((l.length : Int).toNat - (i + 1).toNat) : Nat) : Int).toNat * 29)) []) ∧ k' = k ++ [2]) ?_ ?_
  rotate_left
  · rintro r tag H' k' ⟨rfl, rfl, rfl⟩
    refine ⟨_, rowR_row, ?_⟩
    rw [hcut, List.set_set, show i.toNat + ((l.length : Int).toNat - (i + 1).toNat) = (l.eraseIdx i.toNat).length by rw [List.length_eraseIdx, if_pos hil]; omega]
    exact hK
  refine FnC.of_ev (T := T) (rows := [13, 22, 26, 31]) tOk mixed Tryz.func42 rfl (by kernel_rfl) (by kernel_rfl) rfl hta ?_
  refine SeqJ.go ?_
  refine SeqN.go ?_
  refine SeqJ.go ?_
  refine NormE.same ?_
  refine And.intro ⟨h0, by omega, by omega, Int.le_refl _⟩ ?_
  refine NormE.same ?_
  refine SeqN.go ?_
  refine SeqJ.go ?_
  refine SeqJ.go ?_
  refine SeqN.go ?_
  refine Br.mk (fun ht => absurd (eq_of_beq ht) (by omega)) (fun ht => ?_)
  refine SeqN.go ?_
  refine SeqJ.go ?_
  refine NormE.same ?_
  refine SeqN.go ?_
  refine SeqJ.go ?_
  refine Or.inl ?_
  refine And.intro rfl (And.intro ⟨⟨h0, by omega, by omega⟩, rfl, rfl, rfl⟩ ?_)
  refine NormE.same ?_
  refine And.intro (fun _ => ⟨by omega, by omega, Int.le_refl _⟩) ?_
  refine NormE.same ?_
  refine And.intro rfl ?_
  refine optE.mk hH ?_
  refine And.intro ⟨q1, q2, rfl, rfl, allP_flat _ _ hp⟩ ?_
  refine NormE.same ?_
  refine And.intro (by kernel_rfl) ?_
  refine SeqN.go ?_
  refine SeqJ.go ?_
  refine NormE.same ?_
  refine optE.mk (List.getElem?_set_self hidl) ?_
  refine And.intro ⟨⟨q3, q4, q5⟩, rfl, rfl⟩ ?_
  refine NormE.same ?_
  refine optE.mk (List.getElem?_set_self hidl) ?_
  refine And.intro ⟨q6, rfl, rfl⟩ ?_
  refine SeqN.go ?_
  refine SeqJ.go ?_
  refine SeqN.go ?_
  refine Gho.go ?_
  exact ⟨rfl, rfl, rfl⟩
def slices_Clone_Fetch {α : Type} (l : List α) : Option (List α) := chk (l.length ≤ maxLen ∧ l.length * 80 ≤ 140737488355328) (some l)
set_option maxRecDepth 100000 in
theorem slices_Clone_Fetch_row {α : Type} (E : Pm.Env) (l : List α) (q : l.length ≤ maxLen ∧ l.length * 80 ≤ 140737488355328) {f : α → AV} (hc : ∀ x, (f x).cells.length = 7 := by intro _; rfl) (hp : ∀ x, ((f x).cells).all AV.puB = true := by intro _; rfl) :
    FnN E Tryz.prog 72 [AV.list 7 (l.map f)] 23 (l.flatMap fun x => (f x).cells) l.length 7 := by
  refine FnN.of_ev (T := T) (rows := [2, 4, 7]) tOk mixed Tryz.func72 rfl (by kernel_rfl) (by kernel_rfl) rfl fun hwf => ?_
  refine SeqJ.go ?_
  refine SeqN.go ?_
  refine SeqJ.go ?_
  refine SeqJ.go ?_
  refine And.intro trivial (fun b hb => ?_)
  refine SeqN.go ?_
  refine Br.mk (fun ht => ?_) (fun ht => ?_)
  · have hl : l = [] := List.map_eq_nil_iff.1 (hb ht)
    subst hl
    refine SeqJ.go ?_
    refine SeqN.go ?_
    exact ⟨1, [], rfl, rfl, rfl⟩
  · refine SeqN.go ?_
    refine SeqJ.go ?_
    refine And.intro ⟨rfl, rfl, rfl⟩ ?_
    refine NormE.same ?_
    refine And.intro ⟨rfl, rfl, rfl⟩ ?_
    refine And.intro rfl ?_
    refine And.intro (by rw [List.length_map]; exact q) ?_
    refine Exists.intro (l.flatMap fun x => (f x).cells) (And.intro (flat_from _ _) ?_)
    refine NormE.to (AV.row 1 0 l.length 7) (fun _ => row_len _ _ _ _) ?_
    refine SeqN.go ?_
    exact ⟨1, [], rfl, rfl, allP_flat _ _ hp⟩
set_option maxRecDepth 100000 in
theorem slices_Clone_Fetch_ok {α : Type} (E : Pm.Env) (a0 r : List α) (h : slices_Clone_Fetch a0 = some r) {f : α → AV} (hc : ∀ x, (f x).cells.length = 7 := by intro _; rfl) :
    FnR E Tryz.prog 72 [AV.list 7 (a0.map f)] (AV.list 7 (r.map f)) true := by
  obtain ⟨q, h⟩ := chk_some h
  injection h with h
  subst h
  refine FnR.of_ev (T := T) (rows := [4]) tOk mixed Tryz.func72 rfl (by kernel_rfl) (by kernel_rfl) rfl fun hwf => ?_
  refine SeqJ.go ?_
  refine SeqN.go ?_
  refine SeqJ.go ?_
  refine SeqJ.go ?_
  refine And.intro trivial (fun b hb => ?_)
  refine SeqN.go ?_
  refine Br.mk (fun ht => ?_) (fun ht => ?_)
  · have hl : a0 = [] := List.map_eq_nil_iff.1 (hb ht)
    subst hl
    refine SeqJ.go ?_
    refine SeqN.go ?_
    exact RetE.own 2 1 rfl rfl rfl rfl (And.intro rfl rfl)
  · refine SeqN.go ?_
    refine SeqJ.go ?_
    refine And.intro ⟨rfl, rfl, rfl⟩ ?_
    refine NormE.same ?_
    refine And.intro ⟨rfl, rfl, rfl⟩ ?_
    refine And.intro rfl ?_
    refine And.intro (by simp only [List.length_nil, List.length_map, Nat.zero_add]; exact q) ?_
    refine NormE.to (AV.list 7 (a0.map f)) (fun _ => rfl) ?_
    refine SeqN.go ?_
    exact RetE.own 2 2 rfl rfl rfl rfl (And.intro rfl rfl)
end Go.Proofs.YtommkfooolabhaaGreatDoor
