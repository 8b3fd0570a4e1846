/-
  The walks of package head's End and Parse: a range over an iterator (printed by rng.py, a program of mine).
-/
import Derived.Test.YtommkfooolabhaaGreatDoorGl1
namespace Go.Proofs.YtommkfooolabhaaGreatDoor
open Go Go.Pm Go.RowKit
set_option maxRecDepth 100000
set_option maxHeartbeats 4000000
set_option linter.unusedVariables false
set_option linter.unusedSimpArgs false
theorem trimS_len {s u r : Bytes} (h : strings_TrimSuffix s u = some r) : r.length ≤ s.length := by
  unfold strings_TrimSuffix at h
  refine bind_elim h fun x hx h => ?_
  cases h
  unfold stringslite_TrimSuffix at hx
  refine bind_elim hx fun b _ h => ?_
  cases b with
  | true =>
    rw [cond_true] at h
    refine bind_elim h fun y hy h => ?_
    cases h
    rw [(slc_some hy).2]
    simp
    omega
  | false => rw [cond_false] at h; cases h; exact Nat.le_refl _
theorem items_ok {s : Bytes} (hs : s.length ≤ maxLen) : ∀ {k : Nat} {at_ : Int} {l : List (Bytes × Int)}, head_items s k at_ = some l → ∀ x, x ∈ l → x.1.length ≤ maxLen ∧ IntKind.i64.wrap x.2 = x.2
  | 0, _, _, h => by cases h
  | k + 1, at_, l, h => by
    unfold head_items at h
    cases hd : decide (at_ < (s.length : Int)) with
    | false => rw [hd, cond_false] at h; cases h; intro x hx; cases hx
    | true =>
      rw [hd, cond_true] at h
      refine bind_elim h fun t ht h1 => ?_
      refine bind_elim h1 fun n hn h2 => ?_
      cases hd2 : decide (n < 0) with
      | true => rw [hd2, cond_true] at h2; cases h2; intro x hx; cases hx
      | false =>
        rw [hd2, cond_false] at h2
        refine bind_elim h2 fun u hu h3 => ?_
        refine bind_elim h3 fun line hl h4 => ?_
        refine bind_elim h4 fun tl htl h5 => ?_
        cases h5
        intro x hx
        rcases List.mem_cons.1 hx with rfl | hx
        · refine ⟨?_, wrap_wrap _ _⟩
          have h6 := trimS_len hl
          have h7 : u.length ≤ s.length := by rw [(slc_some hu).2]; simp; omega
          exact Nat.le_trans h6 (Nat.le_trans h7 hs)
        · exact items_ok hs htl x hx
theorem enc_ok {s : Bytes} {items : List (Bytes × Int)} (hi : head_rows s = some items) (hs : s.length ≤ maxLen) {pre : List (Bytes × Int)} {x : Bytes × Int} (hR : ∃ rest, items = pre ++ x :: rest) (F : Nat → Nat → Prop) (w : World) (ι : Nat → Option Nat) :
    Rep F w ι (lineEnc x).1 (AV.str x.1) ∧ Rep F w ι (lineEnc x).2 (AV.int .i64 x.2) := by
  obtain ⟨rest, rfl⟩ := hR
  obtain ⟨h1, h2⟩ := items_ok hs hi x (by simp)
  exact ⟨.str _ _ h1, .int _ _ _ h2⟩
theorem head_End_ok (E : Pm.Env) [LaidM E] (a0 : Bytes) (r : (Int × Int)) (h : head_End a0 = some r) : FnR E Tryz.prog 101 [AV.str a0] (AV.tup [AV.int .i64 r.1, AV.int .i64 r.2]) false := by
  unfold head_End at h
  refine bind_elim h fun items hi h => ?_
  replace h := Option.some.inj h
  refine FnR.of_wp Tryz.func101 rfl (by kernel_rfl) rfl fun F w G a hF hGB hwf hst => ?_
  refine step_ok (rows := []) tOk mixed hst (by kernel_rfl) (st1 := St.of [⟨0, AV.str a0, none⟩, ⟨2, AV.ptr 0 0, none⟩, ⟨3, AV.ptr 1 0, none⟩] [.cells 3 [AV.int .i64 (0 : Int)] [], .cells 30 [AV.int .i64 (0 : Int)] []] []) (Φ := True) ?_ fun _ G W a hst => ?_
  · skip
    refine And.intro rfl ?_
    refine And.intro rfl ?_
    refine And.intro trivial ?_
    refine Gho.to _ _ _ [] ?_ ?_ ?_ rfl rfl ?_
    · exact ⟨⟨rfl, rfl, rfl⟩, ⟨⟨rfl, rfl, rfl⟩, trivial⟩⟩
    · exact rfl
    · exact rfl
    · exact ⟨rfl, rfl, trivial, rfl, rfl, trivial, rfl, rfl, trivial, trivial⟩
  refine loop_ok (rows := []) tOk mixed hF hGB (L := [⟨0, AV.str a0, none⟩, ⟨2, AV.ptr 0 0, none⟩, ⟨3, AV.ptr 1 0, none⟩, ⟨7, AV.fn 164 [] [AV.iptr [AV.str a0]], none⟩]) rfl (encs := lineEnc) (avs := fun x => (AV.str x.1, AV.int .i64 x.2)) (R := fun pre x => ∃ rest, items = pre ++ x :: rest) (S := fun xs => xs = items) (Sp := fun pre => pre <+: items) (gf := 164) (s0 := a0) rfl (enters_of Tryz.func164 (by kernel_rfl) rfl)
    (fun w b0 o0 hs hgl hgb hc => lines_seq hs hi w b0 o0 hgl hgb hc) (fun pre x hs hR F w ι => enc_ok hi hs hR F w ι) rfl rfl (fun pre (_ : Unit) => ∀ l, head_find a0.length (pre ++ l) = head_find a0.length l) (fun pre (z : Int × Int) => ∀ l, head_find a0.length (pre ++ l) = z)
    (fun _ => [.cells 3 [AV.int .i64 (0 : Int)] [], .cells 30 [AV.int .i64 (0 : Int)] []]) (fun z => [.cells 3 [AV.int .i64 z.1] [], .cells 30 [AV.int .i64 z.2] []]) 2 (fun _ => objsC.mk' rfl rfl) (fun z => objsC.mk' rfl rfl) () (fun l => rfl) hst (by kernel_rfl) ?_ (by kernel_rfl) (by kernel_rfl) (by kernel_rfl) (by kernel_rfl) (by kernel_rfl) ?_ ?_ ?_
  · skip
    refine CallH.data _ false rfl (head_lines_ok E a0 a0 rfl) ?_
    refine Gho.to _ _ _ [] ?_ ?_ ?_ rfl rfl ?_
    · exact ⟨⟨rfl, rfl, rfl⟩, ⟨⟨rfl, rfl, rfl⟩, trivial⟩⟩
    · exact rfl
    · exact rfl
    · exact ⟨rfl, rfl, trivial, rfl, rfl, trivial, rfl, rfl, trivial, rfl, rfl, trivial, trivial⟩
  · rintro pre ⟨line, at_⟩ y hR hI
    refine SeqJ.go ?_
    refine SeqN.go ?_
    refine And.intro rfl (And.intro (cellsOnly.mk' rfl rfl) (And.intro rfl ?_))
    refine SeqJ.go ?_
    refine SeqN.go ?_
    refine Br.mk (fun ht0 => ?_) (fun ht0 => ?_)
    · skip
      refine SeqJ.go ?_
      refine And.intro ⟨rfl, rfl, rfl, Nat.le_of_ble_eq_true rfl⟩ (Exists.intro [AV.int .i64 (0 : Int)] (And.intro (fun _ => rfl) ?_))
      refine And.intro ⟨rfl, rfl, rfl, Nat.le_of_ble_eq_true rfl⟩ (Exists.intro [AV.int .i64 (2 : Int)] (And.intro (fun _ => rfl) ?_))
      refine SeqN.go ?_
      refine ⟨((0 : Int), (2 : Int)), fun l => ?_, ?_⟩
      · rw [List.append_assoc]; exact (hI _).trans (by simp only [List.singleton_append, head_find, ht0, cond_true])
      refine Gho.to _ _ _ [] ?_ ?_ ?_ rfl rfl ?_
      · exact ⟨⟨rfl, rfl, rfl⟩, ⟨⟨rfl, rfl, rfl⟩, trivial⟩⟩
      · exact rfl
      · exact rfl
      · exact trivial
    · skip
      refine SeqJ.go ?_
      refine SeqN.go ?_
      refine Br.mk (fun ht1 => ?_) (fun ht1 => ?_)
      · skip
        refine SeqJ.go ?_
        refine And.intro ⟨rfl, rfl, rfl, Nat.le_of_ble_eq_true rfl⟩ (Exists.intro [AV.int .i64 (at_)] (And.intro (fun _ => rfl) ?_))
        refine And.intro ⟨rfl, rfl, rfl, Nat.le_of_ble_eq_true rfl⟩ (Exists.intro [AV.int .i64 (0 : Int)] (And.intro (fun _ => rfl) ?_))
        refine SeqN.go ?_
        refine ⟨(at_, (0 : Int)), fun l => ?_, ?_⟩
        · rw [List.append_assoc]; exact (hI _).trans (by simp only [List.singleton_append, head_find, ht0, ht1, cond_true, cond_false])
        refine Gho.to _ _ _ [] ?_ ?_ ?_ rfl rfl ?_
        · exact ⟨⟨rfl, rfl, rfl⟩, ⟨⟨rfl, rfl, rfl⟩, trivial⟩⟩
        · exact rfl
        · exact rfl
        · exact trivial
      · skip
        refine ⟨(), fun l => ?_, ?_⟩
        · rw [List.append_assoc]; exact (hI _).trans (by simp only [List.singleton_append, head_find, ht0, ht1, cond_false])
        refine Gho.to _ _ _ [] ?_ ?_ ?_ rfl rfl ?_
        · exact ⟨⟨rfl, rfl, rfl⟩, ⟨⟨rfl, rfl, rfl⟩, trivial⟩⟩
        · exact rfl
        · exact rfl
        · exact trivial
  · rintro xs y hxs hI
    have hr : head_find a0.length [] = r := by rw [← h, ← hxs]; have := hI []; rw [List.append_nil] at this; exact this.symm
    refine SeqJ.go ?_
    refine SeqJ.go ?_
    refine NormE.same ?_
    refine SeqN.go ?_
    refine Br.mk (fun ht0 => ?_) (fun ht0 => ?_)
    · skip
      refine SeqJ.go ?_
      refine And.intro ⟨rfl, rfl, rfl, Nat.le_of_ble_eq_true rfl⟩ (Exists.intro [AV.int .i64 (0 : Int)] (And.intro (fun _ => rfl) ?_))
      refine And.intro ⟨rfl, rfl, rfl, Nat.le_of_ble_eq_true rfl⟩ (Exists.intro [AV.int .i64 (2 : Int)] (And.intro (fun _ => rfl) ?_))
      refine SeqN.go ?_
      refine ⟨cellsOnly.mk' rfl rfl, ?_⟩
      refine And.intro rfl ?_
      rw [← hr]; simp only [head_find, ht0, cond_true, cond_false]; rfl
    · skip
      refine SeqN.go ?_
      refine SeqJ.go ?_
      refine And.intro ⟨rfl, rfl, rfl, Nat.le_of_ble_eq_true rfl⟩ (Exists.intro [AV.int .i64 (0 : Int)] (And.intro (fun _ => rfl) ?_))
      refine And.intro ⟨rfl, rfl, rfl, Nat.le_of_ble_eq_true rfl⟩ (Exists.intro [AV.int .i64 (3 : Int)] (And.intro (fun _ => rfl) ?_))
      refine SeqN.go ?_
      refine ⟨cellsOnly.mk' rfl rfl, ?_⟩
      refine And.intro rfl ?_
      rw [← hr]; simp only [head_find, ht0, cond_true, cond_false]; rfl
  · rintro pre z ⟨l, hl⟩ hI
    have hr : z = r := by rw [← h, ← hl]; exact (hI l).symm
    refine ⟨cellsOnly.mk' rfl rfl, ?_⟩
    rw [← hr]
    exact And.intro rfl rfl
theorem head_fold_cons {line : Bytes} {at_ : Int} {l : List (Bytes × Int)} {y : List S_Field} {c : Bytes × Bytes × Bool} {v : Bytes} {a : List S_Field × Int} (h1 : strings_Cut line [58] = some c) (h2 : text_Trim c.2.1 = some v) (h3 : table_Add y c.1 v = some a) :
    head_fold ((line, at_) :: l) y = bif (bif (!c.2.2) then true else (a.2 == (1 : Int))) then some ([], 31) else bif (a.2 != (0 : Int)) then some ([], a.2) else head_fold l a.1 := by
  simp only [head_fold, h1, h2, h3, Option.bind_some]
theorem cT {α : Type} {t : Bool} {a b : α} (h : t = true) : (bif t then a else b) = a := by subst h; rfl
theorem cF {α : Type} {t : Bool} {a b : α} (h : t = false) : (bif t then a else b) = b := by subst h; rfl
theorem head_Parse_ok (E : Pm.Env) [LaidM E] (a0 : Bytes) (r : (List S_Field × Int)) (h : head_Parse a0 = some r) : FnR E Tryz.prog 107 [AV.str a0] (AV.tup [AV.list 2 (r.1.map S_Field.av), AV.int .i64 r.2]) false := by
  unfold head_Parse at h
  refine FnR.of_wp Tryz.func107 rfl (by kernel_rfl) rfl fun F w G a hF hGB hwf hst => ?_
  refine step_ok (rows := []) tOk mixed hst (by kernel_rfl) (st1 := St.of [⟨0, AV.str a0, none⟩, ⟨2, AV.ptr 0 0, none⟩, ⟨3, AV.ptr 1 0, none⟩] [.cells 36 [AV.list 2 (([] : List S_Field).map S_Field.av)] [], .cells 30 [AV.int .i64 (0 : Int)] []] []) (Φ := True) ?_ fun _ G W a hst => ?_
  · skip
    refine And.intro rfl ?_
    refine And.intro rfl ?_
    refine And.intro trivial ?_
    refine Gho.to _ _ _ [] ?_ ?_ ?_ rfl rfl ?_
    · exact ⟨⟨rfl, rfl, rfl⟩, ⟨⟨rfl, rfl, rfl⟩, trivial⟩⟩
    · exact rfl
    · exact rfl
    · exact ⟨rfl, rfl, trivial, rfl, rfl, trivial, rfl, rfl, trivial, trivial⟩
  refine step_ok (rows := []) tOk mixed hst (by kernel_rfl) (st1 := St.of [⟨0, AV.str a0, none⟩, ⟨2, AV.ptr 0 0, none⟩, ⟨3, AV.ptr 1 0, none⟩] [.cells 36 [AV.list 2 (([] : List S_Field).map S_Field.av)] [], .cells 30 [AV.int .i64 (0 : Int)] []] []) (Φ := (head_rows a0).bind (fun l => head_fold l []) = some r) ?_ fun h G W a hst => ?_
  · skip
    refine SeqJ.go ?_
    refine NormE.same ?_
    refine SeqN.go ?_
    refine Br.mk (fun ht => ?_) (fun ht => ?_)
    · replace h := cond_tt h ht
      refine SeqJ.go ?_
      refine And.intro ⟨rfl, rfl, rfl, Nat.le_of_ble_eq_true rfl⟩ (Exists.intro [AV.list 2 (([] : List S_Field).map S_Field.av)] (And.intro (fun _ => rfl) ?_))
      refine Exists.intro [(0, 0)] (Exists.intro 1 (And.intro ⟨(by kernel_rfl), rfl⟩ ?_))
      refine And.intro ⟨rfl, rfl, rfl, Nat.le_of_ble_eq_true rfl⟩ (Exists.intro [AV.int .i64 (2 : Int)] (And.intro (fun _ => rfl) ?_))
      refine SeqN.go ?_
      replace h := Option.some.inj h
      subst h
      exact And.intro rfl rfl
    · replace h := cond_ff h ht
      refine SeqJ.go ?_
      refine And.intro (fun hg => hg) ?_
      refine NormE.same ?_
      refine And.intro (fun hg => hg) ?_
      refine bind_elim h fun x1 hx1 h => ?_
      refine And.intro (fun hg => hg) ?_
      refine And.intro (fun hg => hg) ?_
      refine Exists.intro x1 (And.intro (fun hg => gidx_some hx1 hg) ?_)
      refine And.intro (fun hg => hg) ?_
      refine And.intro (fun hg => (and_r hg)) ?_
      refine SeqN.go ?_
      refine Br.mk (fun ht => ?_) (fun ht => ?_)
      · replace h := cond_tt h ht
        refine SeqJ.go ?_
        refine And.intro ⟨rfl, rfl, rfl, Nat.le_of_ble_eq_true rfl⟩ (Exists.intro [AV.list 2 (([] : List S_Field).map S_Field.av)] (And.intro (fun _ => rfl) ?_))
        refine Exists.intro [(0, 0)] (Exists.intro 1 (And.intro ⟨(by kernel_rfl), rfl⟩ ?_))
        refine And.intro ⟨rfl, rfl, rfl, Nat.le_of_ble_eq_true rfl⟩ (Exists.intro [AV.int .i64 (31 : Int)] (And.intro (fun _ => rfl) ?_))
        refine SeqN.go ?_
        replace h := Option.some.inj h
        subst h
        exact And.intro rfl rfl
      · replace h := cond_ff h ht
        refine And.intro h ?_
        refine Gho.to _ _ _ [] ?_ ?_ ?_ rfl rfl ?_
        · exact ⟨⟨rfl, rfl, rfl⟩, ⟨⟨rfl, rfl, rfl⟩, trivial⟩⟩
        · exact rfl
        · exact rfl
        · exact ⟨rfl, rfl, trivial, rfl, rfl, trivial, rfl, rfl, trivial, trivial⟩
  refine step_ok (rows := []) tOk mixed hst (by kernel_rfl) (st1 := St.of [⟨0, AV.str a0, none⟩, ⟨2, AV.ptr 0 0, none⟩, ⟨3, AV.ptr 1 0, none⟩, ⟨4, AV.ptr 2 0, none⟩] [.cells 36 [AV.list 2 (([] : List S_Field).map S_Field.av)] [], .cells 30 [AV.int .i64 (0 : Int)] [], .cells 36 [AV.list 2 (([] : List S_Field).map S_Field.av)] []] []) (Φ := (head_rows a0).bind (fun l => head_fold l []) = some r) ?_ fun _ G W a hst => ?_
  · skip
    refine And.intro rfl ?_
    refine And.intro h ?_
    refine Gho.to _ _ _ [] ?_ ?_ ?_ rfl rfl ?_
    · exact ⟨⟨rfl, rfl, rfl⟩, ⟨⟨rfl, rfl, rfl⟩, ⟨⟨rfl, rfl, rfl⟩, trivial⟩⟩⟩
    · exact rfl
    · exact rfl
    · exact ⟨rfl, rfl, trivial, rfl, rfl, trivial, rfl, rfl, trivial, rfl, rfl, trivial, trivial⟩
  refine bind_elim h fun items hi h => ?_
  refine loop_ok (rows := []) tOk mixed hF hGB (L := [⟨0, AV.str a0, none⟩, ⟨2, AV.ptr 0 0, none⟩, ⟨3, AV.ptr 1 0, none⟩, ⟨4, AV.ptr 2 0, none⟩, ⟨27, AV.fn 164 [] [AV.iptr [AV.str a0]], none⟩]) rfl (encs := lineEnc) (avs := fun x => (AV.str x.1, AV.int .i64 x.2)) (R := fun pre x => ∃ rest, items = pre ++ x :: rest) (S := fun xs => xs = items) (Sp := fun pre => pre <+: items) (gf := 164) (s0 := a0) rfl (enters_of Tryz.func164 (by kernel_rfl) rfl)
    (fun w b0 o0 hs hgl hgb hc => lines_seq hs hi w b0 o0 hgl hgb hc) (fun pre x hs hR F w ι => enc_ok hi hs hR F w ι) rfl rfl (fun pre (y : List S_Field) => ∀ l, head_fold (pre ++ l) [] = head_fold l y) (fun pre (z : List S_Field × Int) => ∀ l, head_fold (pre ++ l) [] = some z)
    (fun y => [.cells 36 [AV.list 2 (([] : List S_Field).map S_Field.av)] [], .cells 30 [AV.int .i64 (0 : Int)] [], .cells 36 [AV.list 2 (y.map S_Field.av)] []]) (fun z => [.cells 36 [AV.list 2 (z.1.map S_Field.av)] [], .cells 30 [AV.int .i64 z.2] [], .dead]) 3 (fun _ => objsC.mk' rfl rfl) (fun z => objsC.mk' rfl rfl) [] (fun l => rfl) hst (by kernel_rfl) ?_ (by kernel_rfl) (by kernel_rfl) (by kernel_rfl) (by kernel_rfl) (by kernel_rfl) ?_ ?_ ?_
  · skip
    refine CallH.data _ false rfl (head_lines_ok E a0 a0 rfl) ?_
    refine Gho.to _ _ _ [] ?_ ?_ ?_ rfl rfl ?_
    · exact ⟨⟨rfl, rfl, rfl⟩, ⟨⟨rfl, rfl, rfl⟩, ⟨⟨rfl, rfl, rfl⟩, trivial⟩⟩⟩
    · exact rfl
    · exact rfl
    · exact ⟨rfl, rfl, trivial, rfl, rfl, trivial, rfl, rfl, trivial, rfl, rfl, trivial, rfl, rfl, trivial, trivial⟩
  · rintro pre ⟨line, at_⟩ y hR hI
    have h2 : ∃ rest, head_fold ((line, at_) :: rest) y = some r := by
      obtain ⟨rest, hr⟩ := hR
      exact ⟨rest, by rw [← hI, ← hr]; exact h⟩
    clear h
    obtain ⟨rest, h⟩ := h2
    unfold head_fold at h

    refine And.intro rfl (And.intro (cellsOnly.mk' rfl rfl) (And.intro rfl ?_))
    refine SeqJ.go ?_
    refine bind_elim h fun x1 hx1 h => ?_
    refine CallH.data _ false rfl (strings_Cut_ok E line ([58] : Bytes) x1 hx1) ?_
    refine SeqN.go ?_
    refine SeqJ.go ?_
    refine Or.inl ?_
    refine bind_elim h fun x2 hx2 h => ?_
    refine CallH.data _ false rfl (text_Trim_ok E (x1.2.1) x2 hx2) ?_
    refine bind_elim h fun x3 hx3 h => ?_
    refine CallH.data _ false rfl (table_Add_ok E y (x1.1) x2 x3 hx3) ?_
    refine And.intro (by kernel_rfl) ?_
    refine SeqN.go ?_
    refine SeqJ.go ?_
    refine SeqJ.go ?_
    refine And.intro (fun hg => hg) ?_
    refine And.intro (fun hg => (and_r hg)) ?_
    refine SeqN.go ?_
    refine Br.mk (fun ht0 => ?_) (fun ht0 => ?_)
    · replace h := cond_tt h ht0
      refine SeqJ.go ?_
      refine And.intro ⟨rfl, rfl, rfl, Nat.le_of_ble_eq_true rfl⟩ (Exists.intro [AV.list 2 (([] : List S_Field).map S_Field.av)] (And.intro (fun _ => rfl) ?_))
      refine Exists.intro [(0, 0)] (Exists.intro 1 (And.intro ⟨(by kernel_rfl), rfl⟩ ?_))
      refine And.intro ⟨rfl, rfl, rfl, Nat.le_of_ble_eq_true rfl⟩ (Exists.intro [AV.int .i64 (31 : Int)] (And.intro (fun _ => rfl) ?_))
      refine SeqN.go ?_
      refine ⟨(([] : List S_Field), (31 : Int)), fun l => ?_, ?_⟩
      · rw [List.append_assoc]; exact (hI _).trans ((head_fold_cons hx1 hx2 hx3).trans (cT ht0))
      refine Gho.to _ _ _ [] ?_ ?_ ?_ rfl rfl ?_
      · exact ⟨⟨rfl, rfl, rfl⟩, ⟨⟨rfl, rfl, rfl⟩, ⟨trivial, trivial⟩⟩⟩
      · exact rfl
      · exact rfl
      · exact trivial
    · replace h := cond_ff h ht0
      refine SeqJ.go ?_
      refine SeqN.go ?_
      refine Br.mk (fun ht1 => ?_) (fun ht1 => ?_)
      · replace h := cond_tt h ht1
        refine SeqJ.go ?_
        refine And.intro ⟨rfl, rfl, rfl, Nat.le_of_ble_eq_true rfl⟩ (Exists.intro [AV.list 2 (([] : List S_Field).map S_Field.av)] (And.intro (fun _ => rfl) ?_))
        refine Exists.intro [(0, 0)] (Exists.intro 1 (And.intro ⟨(by kernel_rfl), rfl⟩ ?_))
        refine And.intro ⟨rfl, rfl, rfl, Nat.le_of_ble_eq_true rfl⟩ (Exists.intro [AV.int .i64 (x3.2)] (And.intro (fun _ => rfl) ?_))
        refine SeqN.go ?_
        refine ⟨(([] : List S_Field), x3.2), fun l => ?_, ?_⟩
        · rw [List.append_assoc]; exact (hI _).trans ((head_fold_cons hx1 hx2 hx3).trans ((cF ht0).trans (cT ht1)))
        refine Gho.to _ _ _ [] ?_ ?_ ?_ rfl rfl ?_
        · exact ⟨⟨rfl, rfl, rfl⟩, ⟨⟨rfl, rfl, rfl⟩, ⟨trivial, trivial⟩⟩⟩
        · exact rfl
        · exact rfl
        · exact trivial
      · replace h := cond_ff h ht1
        refine SeqN.go ?_
        refine And.intro ⟨rfl, rfl, rfl, Nat.le_of_ble_eq_true rfl⟩ (Exists.intro [AV.list 2 ((x3.1).map S_Field.av)] (And.intro (fun _ => rfl) ?_))
        refine ⟨x3.1, fun l => ?_, ?_⟩
        · rw [List.append_assoc]; exact (hI _).trans ((head_fold_cons hx1 hx2 hx3).trans ((cF ht0).trans (cF ht1)))
        refine Gho.to _ _ _ [] ?_ ?_ ?_ rfl rfl ?_
        · exact ⟨⟨rfl, rfl, rfl⟩, ⟨⟨rfl, rfl, rfl⟩, ⟨⟨rfl, rfl, rfl⟩, trivial⟩⟩⟩
        · exact rfl
        · exact rfl
        · exact trivial
  · rintro xs y hxs hI
    have hr : (y, (0 : Int)) = r := by
      have h1 := hI []
      rw [List.append_nil, hxs, h] at h1
      exact (Option.some.inj h1).symm
    refine SeqJ.go ?_
    refine And.intro ⟨rfl, rfl, rfl, Nat.le_of_ble_eq_true rfl⟩ (Exists.intro [AV.list 2 (y.map S_Field.av)] (And.intro (fun _ => rfl) ?_))
    refine And.intro ⟨rfl, rfl, rfl, Nat.le_of_ble_eq_true rfl⟩ (Exists.intro [AV.int .i64 (0 : Int)] (And.intro (fun _ => rfl) ?_))
    refine SeqN.go ?_
    exact EndR.of rfl rfl (And.intro rfl (by rw [← hr]; rfl))
  · rintro pre z ⟨l, hl⟩ hI
    have hr : z = r := by
      have h1 := hI l
      rw [hl, h] at h1
      exact (Option.some.inj h1).symm
    exact EndR.of rfl rfl (And.intro rfl (by rw [← hr]; rfl))
end Go.Proofs.YtommkfooolabhaaGreatDoor
