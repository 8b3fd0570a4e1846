/-
  Plain laws of a client's connection: ClientWrites.
-/
import Derived.Test.YtkfoahoplndelaaGreatDoorPc1
namespace Go.Proofs.YtkfoahoplndelaaGreatDoor
open Go Go.Pm
set_option linter.unusedVariables false
set_option maxRecDepth 100000
abbrev wC (last : Bool) (q : Bytes) (ends : Bool) : S_Client := cl (newR true []) [] last 0 q ends
theorem wRight {last ends : Bool} {q : Bytes} (hq : q.length ≤ 16384) (h : last = true ∨ ends = false) : client_Right (wC last q ends) = some true :=
  cRight (newR_ok _ _) (by simp) hq (.inl rfl) (by rcases h with h | h; exact .inl h; exact .inr ⟨rfl, h⟩)
theorem qRight {q : Bytes} (hq : q.length ≤ 16384) : queue_Right (S_Queue.mk q 16384) = some true := by
  unfold queue_Right
  show some (bif (bif decide ((16384 : Int) ≥ 1) then decide ((16384 : Int) ≤ 65536) else false) then decide ((q.length : Int) ≤ 16384) else false) = _
  rw [decide_eq_true (show (q.length : Int) ≤ 16384 by omega)]; rfl
theorem put_eq {q s : Bytes} (hq : q.length ≤ 16384) (hs : s.length ≤ 3000) : client_Put (wC false q false) s = some (wC false (q ++ s.take (min s.length (16384 - q.length))) false, ((min s.length (16384 - q.length) : Nat) : Int), 0) := by
  have hR := wRight (last := false) (ends := false) hq (.inr rfl)
  have hn : imin (s.length : Int) ((16384 - q.length : Nat) : Int) = ((min s.length (16384 - q.length) : Nat) : Int) := by
    rcases imin_cases (s.length : Int) ((16384 - q.length : Nat) : Int) with ⟨h1, h2⟩ | ⟨h1, h2⟩ <;> rw [h1] <;> omega
  have hroom : queue_Room (S_Queue.mk q 16384) = some ((16384 - q.length : Nat) : Int) := by
    unfold queue_Room
    rw [qRight hq, Option.bind_some]
    show some (IntKind.i64.wrap (16384 - (q.length : Int))) = _
    rw [wrap_i64 (by omega) (by omega)]
    congr 1; omega
  have hput : queue_Put (S_Queue.mk q 16384) s = some (S_Queue.mk (q ++ s.take (min s.length (16384 - q.length))) 16384, ((min s.length (16384 - q.length) : Nat) : Int), 0) := by
    unfold queue_Put
    rw [qRight hq, Option.bind_some]
    show ((queue_Room (S_Queue.mk q 16384)).bind _) = _
    rw [hroom, Option.bind_some, hn]
    have hs1 : slc s 0 ((min s.length (16384 - q.length) : Nat) : Int) = some (s.take (min s.length (16384 - q.length))) := by unfold slc; rw [chk_pos (by omega)]; simp
    have hc : cat q (s.take (min s.length (16384 - q.length))) = some (q ++ s.take (min s.length (16384 - q.length))) := by unfold cat; rw [chk_pos (by unfold maxLen; simp; omega)]
    rw [hs1, Option.bind_some]
    show ((cat q (s.take (min s.length (16384 - q.length)))).bind _) = _
    rw [hc]; rfl
  unfold client_Put client_call_int_client_Put_1
  rw [hR, Option.bind_some]
  have hone : client_Put_1 (wC false q false) s = some ((((min s.length (16384 - q.length) : Nat) : Int), (0 : Int)), wC false (q ++ s.take (min s.length (16384 - q.length))) false) := by
    unfold client_Put_1
    show ((queue_Put (S_Queue.mk q 16384) s).bind _) = _
    rw [hput]; rfl
  show (((client_Put_1 (wC false q false) s).bind _).bind _) = _
  rw [hone]; rfl
theorem put_end {last : Bool} {q s : Bytes} (hR : client_Right (wC last q true) = some true) : client_Put (wC last q true) s = some (wC last q true, 0, 0) := by
  unfold client_Put client_call_int_client_Put_1
  rw [hR]; rfl
theorem write_eq {last ends : Bool} {q : Bytes} {k : Int} (hR : client_Right (wC last q ends) = some true) (hq : q.length ≤ 16384) (hk : 0 ≤ k) : client_Write (wC last q ends) k = some (wC last (q.drop (min k.toNat q.length)) ends, q.take (min k.toNat q.length), 0) := by
  have hn : imin k (q.length : Int) = ((min k.toNat q.length : Nat) : Int) := by
    rcases imin_cases k (q.length : Int) with ⟨h1, h2⟩ | ⟨h1, h2⟩ <;> rw [h1] <;> omega
  have htake : queue_Take (S_Queue.mk q 16384) k = some (S_Queue.mk (q.drop (min k.toNat q.length)) 16384, q.take (min k.toNat q.length), 0) := by
    unfold queue_Take
    rw [decide_eq_false (show ¬ k < 0 by omega), cond_false]
    have hoff : queue_off (S_Queue.mk q 16384) (fun x0 => queue_Take_1 x0 k) = some (S_Queue.mk (q.drop (min k.toNat q.length)) 16384, q.take (min k.toNat q.length), 0) := by
      unfold queue_off
      rw [qRight hq, Option.bind_some]
      have hone : queue_Take_1 q k = some (imin k (q.length : Int)) := rfl
      rw [show (!true) = false from rfl, cond_false]
      show ((queue_Take_1 q k).bind _) = _
      rw [hone, Option.bind_some, hn]
      show (bif decide (((min k.toNat q.length : Nat) : Int) < 0) then _ else _) = _
      rw [decide_eq_false (by omega), cond_false]
      have s1 : slc q ((min k.toNat q.length : Nat) : Int) (q.length : Int) = some (q.drop (min k.toNat q.length)) := by
        unfold slc
        rw [chk_pos (by omega)]
        show some ((q.drop (min k.toNat q.length)).take (q.length - min k.toNat q.length)) = _
        rw [List.take_of_length_le (by simp)]
      have s2 : slc q 0 ((min k.toNat q.length : Nat) : Int) = some (q.take (min k.toNat q.length)) := by unfold slc; rw [chk_pos (by omega)]; simp
      show ((slc q ((min k.toNat q.length : Nat) : Int) (q.length : Int)).bind _) = _
      rw [s1, Option.bind_some]
      show ((slc q 0 ((min k.toNat q.length : Nat) : Int)).bind _) = _
      rw [s2]; rfl
    rw [hoff]; rfl
  unfold client_Write client_call_string_client_Write_1
  rw [hR, Option.bind_some]
  have hone : client_Write_1 (wC last q ends) k = some ((q.take (min k.toNat q.length), (0 : Int)), wC last (q.drop (min k.toNat q.length)) ends) := by
    unfold client_Write_1
    show ((queue_Take (S_Queue.mk q 16384) k).bind _) = _
    rw [htake]; rfl
  show (((client_Write_1 (wC last q ends) k).bind _).bind _) = _
  rw [hone]; rfl
theorem end_eq {q : Bytes} (hq : q.length ≤ 16384) : client_End (wC false q false) = some (wC true q true, 0) := by
  unfold client_End client_call_int_client_End_1
  rw [wRight hq (.inr rfl)]; rfl
theorem over_eq {q : Bytes} (hq : q.length ≤ 16384) : client_Over (wC true q true) = some (q == ([] : Bytes)) := by
  unfold client_Over
  rw [wRight hq (.inl rfl)]; rfl
theorem like_w (last : Bool) (q : Bytes) (ends : Bool) : intarsiaref23_Like (wC last q ends) (wC last q ends) = some true :=
  LikeC_refl (Nat.zero_le _) (Nat.zero_le _) (fun m hm => by cases hm)
noncomputable def finW (s2 s3 : Bytes) (s5 : S_Client) : Option ((Bytes × Bytes × Int × S_Client) ⊕ Bool) :=
  (client_End s5).bind fun x23 =>
  (client_Put (x23.1) ([109, 111, 114, 101] : Bytes)).bind fun x24 =>
  (gcall (!(bif (bif ((x23.2) != (0 : Int)) then true else ((x24.2.2) != (0 : Int))) then true else ((x24.2.1) != (0 : Int)))) (intarsiaref23_Like (x23.1) (x24.1))).bind fun x25 =>
  (gcall (!(bif (bif (bif ((x23.2) != (0 : Int)) then true else ((x24.2.2) != (0 : Int))) then true else ((x24.2.1) != (0 : Int))) then true else (!x25))) (client_Over (x23.1))).bind fun x26 =>
  (gcall (!(bif (bif (bif (bif ((x23.2) != (0 : Int)) then true else ((x24.2.2) != (0 : Int))) then true else ((x24.2.1) != (0 : Int))) then true else (!x25)) then true else (!(x26 == (s2 == s3))))) (intarsialaw23_alive)).bind fun x27 =>
  bif (bif (bif (bif (bif (bif ((x23.2) != (0 : Int)) then true else ((x24.2.2) != (0 : Int))) then true else ((x24.2.1) != (0 : Int))) then true else (!x25)) then true else (!(x26 == (s2 == s3)))) then true else (!x27)) then
    some (.inr false)
  else
    (client_Write (x23.1) (20000 : Int)).bind fun x28 =>
    (gcat ((x28.2.2) == (0 : Int)) s3 (x28.2.1)).bind fun x29 =>
    (gcall (bif ((x28.2.2) == (0 : Int)) then (x29 == s2) else false) (client_Over (x28.1))).bind fun x30 =>
    some (.inr (bif (bif ((x28.2.2) == (0 : Int)) then (x29 == s2) else false) then x30 else false))
theorem finW_eq {s3 q : Bytes} (hq : q.length ≤ 16384) (hs : (s3 ++ q).length ≤ 100000) : finW (s3 ++ q) s3 (wC false q false) = some (.inr true) := by
  have hR := wRight (last := true) (ends := true) hq (.inl rfl)
  have hb : ((q == ([] : Bytes)) == (s3 ++ q == s3)) = true := by
    cases h : (q == ([] : Bytes)) with
    | true => rw [eq_of_beq h]; simp
    | false =>
      have : (s3 ++ q == s3) = false := by
        cases h2 : (s3 ++ q == s3) with
        | false => rfl
        | true =>
          have h3 : s3 ++ q = s3 ++ [] := by rw [List.append_nil]; exact eq_of_beq h2
          have h4 := List.append_cancel_left h3
          rw [h4] at h; cases h
      rw [this]; rfl
  unfold finW
  rw [end_eq hq, Option.bind_some, put_end hR, Option.bind_some]
  show ((gcall true (intarsiaref23_Like (wC true q true) (wC true q true))).bind _) = _
  rw [gcall_tt rfl, like_w, Option.bind_some]
  show ((gcall true (client_Over (wC true q true))).bind _) = _
  rw [gcall_tt rfl, over_eq hq, Option.bind_some]
  show ((gcall (!(!((q == ([] : Bytes)) == (s3 ++ q == s3)))) intarsialaw23_alive).bind fun x27 => bif (bif (!((q == ([] : Bytes)) == (s3 ++ q == s3))) then true else (!x27)) then some (Sum.inr false) else _) = _
  rw [hb]
  show ((gcall true intarsialaw23_alive).bind _) = _
  rw [gcall_tt rfl, calive_eq, Option.bind_some]
  show ((client_Write (wC true q true) 20000).bind _) = _
  have hn : min (20000 : Int).toNat q.length = q.length := by show min 20000 q.length = _; omega
  rw [write_eq hR hq (by omega), hn, Option.bind_some, List.drop_length, List.take_length]
  have hc : gcat ((0 : Int) == (0 : Int)) s3 q = some (s3 ++ q) := by
    unfold gcat
    rw [chk_pos (fun _ => by rw [← List.length_append]; unfold maxLen; omega)]
  show ((gcat ((0 : Int) == (0 : Int)) s3 q).bind _) = _
  rw [hc, Option.bind_some]
  have he : (s3 ++ q == s3 ++ q) = true := by simp
  show ((gcall (s3 ++ q == s3 ++ q) (client_Over (wC true [] true))).bind fun x30 => some (Sum.inr (bif (s3 ++ q == s3 ++ q) then x30 else false))) = _
  rw [he, gcall_tt rfl, over_eq (by simp), Option.bind_some]
  rfl
theorem ClientWrites_true (a0 : List Bytes) (a1 : List Int) : intarsialaw23_ClientWrites a0 a1 = some true := by
  unfold intarsialaw23_ClientWrites
  rw [newC, Option.bind_some]
  obtain ⟨r, hr, hr2⟩ : Tot (loopO (intarsialaw23_ClientWrites_b1 a0 a1) (([] : Bytes), ([] : Bytes), (0 : Int), cl (newR true []) [] false 0 [] false)) (fun r => r = true) := by
    refine loop_tot (fun x : Bytes × Bytes × Int × S_Client => 21 - x.2.2.1.toNat) (fun x => ∃ (i : Nat) (q : Bytes), x.2.2.1 = (i : Int) ∧ i ≤ 20 ∧ i ≤ a0.length ∧ x.2.2.2 = wC false q false ∧ q.length ≤ 16384 ∧ x.1 = x.2.1 ++ q ∧ x.1.length ≤ 3000 * i) _ (fun x hx => ?_) _ ⟨0, [], rfl, by omega, by omega, rfl, by simp, rfl, by simp⟩
    obtain ⟨s2, s3, s4, s5⟩ := x
    obtain ⟨i, q, h1, h2, h3, h4, h5, h6, h7⟩ := hx
    simp only at h1 h4 h6 h7
    subst h1 h4 h6
    have hfin := finW_eq (s3 := s3) h5 (by omega)
    unfold intarsialaw23_ClientWrites_b1
    dsimp only
    by_cases hlt : i < a0.length
    · rw [decide_eq_true (show (i : Int) < (a0.length : Int) by omega), cond_true, idx_at (List.getElem?_eq_getElem hlt), Option.bind_some]
      by_cases h20 : i = 20
      · right
        rw [decide_eq_true (show (i : Int) ≥ 20 by omega), cond_true]
        exact ⟨true, hfin, rfl⟩
      · left
        rw [decide_eq_false (show ¬ (i : Int) ≥ 20 by omega), cond_false, slc_cut _ 3000 (K := 3000) rfl, Option.bind_some]
        have hs : (a0[i].take 3000).length ≤ 3000 := by simp; omega
        generalize a0[i].take 3000 = s at hs ⊢
        generalize hn : min s.length (16384 - q.length) = n
        have hn1 : n ≤ s.length := by omega
        have hn2 : q.length + n ≤ 16384 := by omega
        have hp := put_eq (q := q) (s := s) h5 hs
        rw [hn] at hp
        rw [hp, Option.bind_some]
        show ∃ y, (bif (bif (bif ((0 : Int) != 0) then true else decide ((n : Int) < 0)) then true else decide ((n : Int) > (s.length : Int))) then _ else _) = _ ∧ _
        rw [decide_eq_false (show ¬ (n : Int) < 0 by omega), decide_eq_false (show ¬ (n : Int) > (s.length : Int) by omega)]
        have hsl : slc s 0 (n : Int) = some (s.take n) := by unfold slc; rw [chk_pos (by omega)]; simp
        show ∃ y, ((slc s 0 (n : Int)).bind _) = _ ∧ _
        rw [hsl, Option.bind_some]
        have htl : (s.take n).length = n := by simp; omega
        have hl7 : (s3 ++ q).length = s3.length + q.length := by simp
        have hc : cat (s3 ++ q) (s.take n) = some (s3 ++ q ++ s.take n) := by unfold cat; rw [chk_pos (by unfold maxLen; omega)]
        rw [hc, Option.bind_some, wrap_i64 (by omega) (by omega)]
        have hql : (q ++ s.take n).length ≤ 16384 := by rw [List.length_append, htl]; omega
        by_cases hw : i < a1.length
        · rw [decide_eq_true (show (i : Int) < (a1.length : Int) by omega), cond_true, idx_at (List.getElem?_eq_getElem hw), Option.bind_some]
          have hk : 0 ≤ imax a1[i] 0 := by unfold imax; split <;> omega
          have hwr := write_eq (q := q ++ s.take n) (wRight (last := false) (ends := false) hql (.inr rfl)) hql hk
          generalize hm : min (imax a1[i] 0).toNat (q ++ s.take n).length = m at hwr
          have hm1 : m ≤ (q ++ s.take n).length := by omega
          have hm2 : (m : Int) ≤ imax a1[i] 0 := by omega
          rw [hwr, Option.bind_some]
          have hg : gidx (!((0 : Int) != 0)) a1 (i : Int) = some a1[i] := by
            show gidx true a1 (i : Int) = _
            rw [gidx_tt rfl, idx_at (List.getElem?_eq_getElem hw)]
          show ∃ y, ((gidx (!((0 : Int) != 0)) a1 (i : Int)).bind _) = _ ∧ _
          rw [hg, Option.bind_some]
          have hml : ((q ++ s.take n).take m).length = m := by rw [List.length_take]; omega
          show ∃ y, (bif (bif ((0 : Int) != 0) then true else decide ((((q ++ s.take n).take m).length : Int) > imax a1[i] 0)) then _ else _) = _ ∧ _
          rw [decide_eq_false (by rw [hml]; omega)]
          have hc2 : cat s3 ((q ++ s.take n).take m) = some (s3 ++ (q ++ s.take n).take m) := by unfold cat; rw [chk_pos (by rw [hml]; unfold maxLen; omega)]
          show ∃ y, ((cat s3 ((q ++ s.take n).take m)).bind _) = _ ∧ _
          rw [hc2, Option.bind_some]
          refine ⟨_, rfl, ⟨i + 1, (q ++ s.take n).drop m, rfl, by omega, hlt, rfl, by rw [List.length_drop]; omega, ?_, ?_⟩, by show 21 - ((i : Int) + 1).toNat < 21 - ((i : Nat) : Int).toNat; omega⟩
          · show s3 ++ q ++ s.take n = (s3 ++ (q ++ s.take n).take m) ++ (q ++ s.take n).drop m
            rw [List.append_assoc s3, List.append_assoc s3, List.take_append_drop]
          · show (s3 ++ q ++ s.take n).length ≤ 3000 * (i + 1)
            rw [List.length_append, htl]; omega
        · rw [decide_eq_false (show ¬ (i : Int) < (a1.length : Int) by omega), cond_false]
          refine ⟨_, rfl, ⟨i + 1, q ++ s.take n, rfl, by omega, hlt, rfl, hql, ?_, ?_⟩, by show 21 - ((i : Int) + 1).toNat < 21 - ((i : Nat) : Int).toNat; omega⟩
          · show s3 ++ q ++ s.take n = s3 ++ (q ++ s.take n)
            rw [List.append_assoc]
          · show (s3 ++ q ++ s.take n).length ≤ 3000 * (i + 1)
            rw [List.length_append, htl]; omega
    · right
      rw [decide_eq_false (show ¬ (i : Int) < (a0.length : Int) by omega), cond_false]
      exact ⟨true, hfin, rfl⟩
  rw [hr, hr2]
end Go.Proofs.YtkfoahoplndelaaGreatDoor
