/-
  The contract of package head's iterator: the lines of a text, each with the place behind its end.
-/
import Derived.Test.YtommkfooolabhaaGreatDoorRf5
import Derived.Test.YtommkfooolabhaaGreatDoorGi3
import Derived.Test.YtommkfooolabhaaGreatDoorWk10
import Derived.RangeFuncBound
import Derived.RangeFuncCalls
import Derived.Shelf.Abstract
import Derived.Shelf.RegionOpen
import Derived.WalkKit
import Derived.OwnWalkIn
import Derived.TacticsInMore
import Derived.LoopNIn
import Derived.LoopIn
namespace Go.Proofs.YtommkfooolabhaaGreatDoor
open Go Go.Pm Go.RowKit Go.Shelf
set_option linter.unusedSimpArgs false
set_option linter.unusedVariables false
theorem fnr_str {E : Pm.Env} {f : FuncId} {args : List AV} {r : AV} (h : FnR E Tryz.prog f args r false) (he : ∀ args w, (callFunc f args).run Tryz.prog w = .ok (.enter f args) w) {w : World} (hgl : ∀ b, b < E.GB → w.heap[b]? = E.W0.heap[b]?) (hgb : E.GB ≤ w.heap.size)
    {vals : List Value} (hl : vals.length = args.length) (hr : ∀ (i : Nat) (v : Value) (c : AV), vals[i]? = some v → args[i]? = some c → Rep (fun _ _ => False) w (fun _ => none) v c) :
    Calls Tryz.prog f vals.toArray w fun e w' => (∃ v F', e = .returned v ∧ Rep F' w' (fun _ => none) v r) ∧ Below w.heap.size w w' := by
  rcases h with h | ⟨_, hx⟩
  · refine (h.2 (fun _ _ => False) w vals ⟨fun b o h => h.elim, hgl, hgb⟩ hl hr).mono ?_
    rintro e w' ⟨v, F', rfl, hb, _, _, h3, _⟩
    exact ⟨⟨v, F', rfl, h3⟩, hb⟩
  · obtain ⟨v, h1, _⟩ := hx w vals hl ⟨_, hr⟩
    rw [he] at h1
    cases h1
theorem indexByte_calls {E : Pm.Env} [LaidM E] {t : Bytes} {n : Int} (h : strings_IndexByte t 10 = some n) (ht : t.length ≤ maxLen) (w : World) (hgl : ∀ b, b < E.GB → w.heap[b]? = E.W0.heap[b]?) (hgb : E.GB ≤ w.heap.size) :
    Calls Tryz.prog 165 #[.string ⟨t.toArray⟩, .int .u8 10] w fun e w' => (e = .returned (.int .i64 n) ∧ IntKind.i64.wrap n = n) ∧ Below w.heap.size w w' := by
  refine (fnr_str (strings_IndexByte_ok E t 10 n h) (enters_of Tryz.func165 (by kernel_rfl) rfl) hgl hgb (vals := [.string ⟨t.toArray⟩, .int .u8 10]) rfl fun i v c hv hc => ?_).mono ?_
  · match i, hv, hc with
    | 0, hv, hc => cases hv; cases hc; exact .str _ _ ht
    | 1, hv, hc => cases hv; cases hc; exact .int _ _ _ rfl
  · rintro e w' ⟨⟨v, F', rfl, hr⟩, hb⟩
    cases hr with | int _ _ _ hw => exact ⟨⟨rfl, hw⟩, hb⟩
theorem trimSuffix_calls {E : Pm.Env} [LaidM E] {t u : Bytes} (h : strings_TrimSuffix t [13] = some u) (ht : t.length ≤ maxLen) (w : World) (hgl : ∀ b, b < E.GB → w.heap[b]? = E.W0.heap[b]?) (hgb : E.GB ≤ w.heap.size) :
    Calls Tryz.prog 106 #[.string ⟨t.toArray⟩, .string ⟨#[13]⟩] w fun e w' => (e = .returned (.string ⟨u.toArray⟩) ∧ u.length ≤ maxLen) ∧ Below w.heap.size w w' := by
  refine (fnr_str (strings_TrimSuffix_ok E t [13] u h) (enters_of Tryz.func106 (by kernel_rfl) rfl) hgl hgb (vals := [.string ⟨t.toArray⟩, .string ⟨#[13]⟩]) rfl fun i v c hv hc => ?_).mono ?_
  · match i, hv, hc with
    | 0, hv, hc => cases hv; cases hc; exact .str _ _ ht
    | 1, hv, hc => cases hv; cases hc; exact .str _ [13] (by decide)
  · rintro e w' ⟨⟨v, F', rfl, hr⟩, hb⟩
    cases hr with | str _ _ hw => exact ⟨⟨rfl, hw⟩, hb⟩
def lineEnc (x : Bytes × Int) : Value × Value := (.string ⟨x.1.toArray⟩, .int .i64 x.2)
theorem slice_bytes (s : Bytes) (a b : Nat) (h : a ≤ b) (hb : b ≤ s.length) : (⟨s.toArray⟩ : ByteArray).extract a b = ⟨((s.take b).drop a).toArray⟩ := by
  apply ByteArray.ext
  simp [ByteArray.data_extract, List.drop_take]
theorem at_sum {s : Bytes} {at_ n : Int} (hs : s.length ≤ maxLen) (h0 : 0 ≤ at_) (h1 : at_ ≤ IntKind.i64.wrap (at_ + n)) (h2 : IntKind.i64.wrap (at_ + n) ≤ s.length) (hn : 0 ≤ n) (hw : IntKind.i64.wrap n = n) : IntKind.i64.wrap (at_ + n) = at_ + n := by
  unfold maxLen at hs
  simp only [IntKind.wrap, IntKind.bits, IntKind.signed] at *
  omega
theorem in64 {n : Int} (h : 0 ≤ n) (h' : n ≤ 9223372036854775807) : IntKind.i64.wrap n = n := i64_ok (by omega) h'
theorem out64 (n : Int) : IntKind.i64.wrap n ≤ 9223372036854775807 := by
  simp [IntKind.wrap, IntKind.bits, IntKind.signed]
  split <;> omega
theorem low64 (n : Int) : -9223372036854775808 ≤ IntKind.i64.wrap n := by
  simp [IntKind.wrap, IntKind.bits, IntKind.signed]
  split <;> omega
theorem w64 {n : Int} (h : IntKind.i64.wrap n = n) : wrap64 n = n := IntWalk.wrap64_in n ⟨by have := low64 n; omega, by have := out64 n; omega⟩
theorem at_next {s : Bytes} {k : Nat} {at_ n : Int} {l : List (Bytes × Int)} (hs : s.length ≤ maxLen) (h0 : 0 ≤ at_) (h1 : at_ ≤ IntKind.i64.wrap (at_ + n)) (h2 : IntKind.i64.wrap (at_ + n) ≤ s.length) (hn : 0 ≤ n) (hw : IntKind.i64.wrap n = n)
    (h : head_items s k (IntKind.i64.wrap (at_ + IntKind.i64.wrap (n + 1))) = some l) : IntKind.i64.wrap (at_ + IntKind.i64.wrap (n + 1)) = at_ + n + 1 := by
  have hpos : 0 ≤ IntKind.i64.wrap (at_ + IntKind.i64.wrap (n + 1)) := by
    rcases Int.lt_or_le (IntKind.i64.wrap (at_ + IntKind.i64.wrap (n + 1))) 0 with hneg | hp
    · exfalso
      cases k with
      | zero => cases h
      | succ k =>
        unfold head_items at h
        have hd : decide (IntKind.i64.wrap (at_ + IntKind.i64.wrap (n + 1)) < (s.length : Int)) = true := decide_eq_true (by omega)
        rw [hd, cond_true] at h
        refine bind_elim h fun t ht _ => ?_
        have := (slc_some ht).1
        omega
    · exact hp
  unfold maxLen at hs
  simp only [IntKind.wrap, IntKind.bits, IntKind.signed] at *
  omega
set_option maxHeartbeats 4000000 in
set_option maxRecDepth 100000 in
theorem lines_seq {E : Pm.Env} [LaidM E] {s : Bytes} {items : List (Bytes × Int)} (hs : s.length ≤ maxLen) (hi : head_rows s = some items) (w : World) (b0 o0 : Nat) (hgl : ∀ b, b < E.GB → w.heap[b]? = E.W0.heap[b]?) (hgb : E.GB ≤ w.heap.size)
    (hc : w.cell? ⟨b0, o0, none⟩ = some (.string ⟨s.toArray⟩)) :
    SeqR Tryz.prog 164 #[.pointer (some ⟨b0, o0, none⟩)] (fun x => #[(lineEnc x).1, (lineEnc x).2]) (KpR E b0 o0) (fun pre x => ∃ rest, items = pre ++ x :: rest) (fun xs => xs = items) (fun pre => pre <+: items) w := by
  intro n l J Jx W hb hJ hJx hY h0
  refine callsIn_of_wp Tryz.func164 rfl trivial ?_ rfl
  simp only [Tryz.ntmps164, List.size_toArray, List.length_cons, List.length_nil, Nat.reduceAdd, Nat.reduceSub, Array.replicate_succ, Array.replicate_zero, List.push_toArray, List.append_toArray, List.nil_append, List.cons_append]
  gi_wp2
  gi_loopw [3] (fun p wr => ∃ (at_ : Int) (pre rest : List (Bytes × Int)) (k : Nat), p = .int .i64 at_ ∧ head_items s k at_ = some rest ∧ items = pre ++ rest ∧ J pre wr ∧ KpR E b0 o0 W wr) (fun p wr => s.length + 1 - (intOf p).toNat)
  case atStart => exact ⟨0, [], items, s.length + 1, rfl, hi, rfl, h0, fun _ h => h, fun _ _ => rfl, Nat.le_refl _⟩
  case round =>
    obtain ⟨at_, pre, rest, k, rfl, h, hit, hJp, hK⟩ := hrel
    cases k with
    | zero => cases h
    | succ k =>
    unfold head_items at h
    have hcell : wr.cell? ⟨b0, o0, none⟩ = some (.string ⟨s.toArray⟩) := hK.1 _ ((cell_congr (hb.block b0 (World.block_lt_of_cell? w _ hc))).trans hc)
    have hglr : ∀ b, b < E.GB → wr.heap[b]? = E.W0.heap[b]? := fun b hbb => (hK.2.1 b hbb).trans ((hb.block b (by omega)).trans (hgl b hbb))
    have hgbr : E.GB ≤ wr.heap.size := by have := hK.2.2; have := hb.size; omega
    by_cases hlt : at_ < (s.length : Int)
    · rw [decide_eq_true hlt, cond_true] at h
      refine bind_elim h fun t ht h1 => ?_
      refine bind_elim h1 fun n0 hn h2 => ?_
      clear h h1
      have qt := (slc_some ht).1
      have et : t = (s.drop at_.toNat).take (s.length - at_.toNat) := by simpa using (slc_some ht).2
      subst et
      have htl : ((s.drop at_.toNat).take (s.length - at_.toNat)).length ≤ maxLen := by simp; omega
      have hsl : 0 ≤ at_ ∧ at_ ≤ (s.length : Int) := ⟨qt.1, by omega⟩
      have e1 : (⟨s.toArray⟩ : ByteArray).extract at_.toNat s.length = ⟨((s.drop at_.toNat).take (s.length - at_.toNat)).toArray⟩ := by
        rw [slice_bytes s _ _ (by omega) (Nat.le_refl _), List.drop_take]
      clear ht qt
      by_cases hneg : n0 < 0
      · rw [decide_eq_true hneg, cond_true] at h2
        injection h2 with h2
        subst h2
        gi_wp2
        refine ⟨trivial, fun h => (by cases h), (callsIn_wide.2 (indexByte_calls (E := E) hn htl wr hglr hgbr)).mono ?_⟩
        rintro e w1 ⟨⟨rfl, hwn⟩, hb1⟩
        have hcell1 : w1.cell? ⟨b0, o0, none⟩ = some (.string ⟨s.toArray⟩) := (cell_congr (hb1.block b0 (World.block_lt_of_cell? wr _ hcell))).trans hcell
        gi_wp2
        have hJ1 : J pre w1 := hJ pre wr w1 none hJp ⟨hb1.os, hb1.tape, hb1.output, hb1.size, fun k hk _ => hb1.block k hk⟩ (fun r e => by cases e)
        refine bodyPost_ret (results_none rfl _ _ _) rfl ?_
        exact ⟨⟨_, rfl⟩, .inl ⟨_, rfl, by rw [hit, List.append_nil]; exact hJ1⟩⟩
      · rw [decide_eq_false hneg, cond_false] at h2
        refine bind_elim h2 fun u hu h3 => ?_
        refine bind_elim h3 fun line hl h4 => ?_
        refine bind_elim h4 fun tl htl2 h5 => ?_
        clear h2 h3 h4
        injection h5 with h5
        subst h5
        have qu := (slc_some hu).1
        have hn0 : 0 ≤ n0 := by omega
        gi_wp2
        refine ⟨trivial, fun h => (by cases h), (callsIn_wide.2 (indexByte_calls (E := E) hn htl wr hglr hgbr)).mono ?_⟩
        rintro e w1 ⟨⟨rfl, hwn⟩, hb1⟩
        have hlt0 := World.block_lt_of_cell? wr _ hcell
        have hcell1 : w1.cell? ⟨b0, o0, none⟩ = some (.string ⟨s.toArray⟩) := (cell_congr (hb1.block b0 hlt0)).trans hcell
        have hsum := at_sum hs hsl.1 qu.2.1 qu.2.2 hn0 hwn
        have hnx := at_next hs hsl.1 qu.2.1 qu.2.2 hn0 hwn htl2
        have hn1 : IntKind.i64.wrap (n0 + 1) = n0 + 1 := in64 (by omega) (by have := out64 (at_ + IntKind.i64.wrap (n0 + 1)); omega)
        have hat : IntKind.i64.wrap (at_ + (n0 + 1)) = at_ + (n0 + 1) := by rw [hn1] at hnx; omega
        rw [hn1, hat] at htl2 hit
        rw [hsum] at qu
        have eu : u = (s.drop at_.toNat).take ((at_ + n0).toNat - at_.toNat) := by have := (slc_some hu).2; rw [hsum] at this; exact this
        subst eu
        clear hu
        have h64a := w64 hsum
        have h64b := w64 hn1
        have h64c := w64 hat
        have hul : ((s.drop at_.toNat).take ((at_ + n0).toNat - at_.toNat)).length ≤ maxLen := by simp; omega
        have e2 : (⟨s.toArray⟩ : ByteArray).extract at_.toNat (at_ + n0).toNat = ⟨((s.drop at_.toNat).take ((at_ + n0).toNat - at_.toNat)).toArray⟩ := by
          rw [slice_bytes s _ _ (by omega) (by omega), List.drop_take]
        have hsl2 : at_ ≤ at_ + n0 ∧ at_ + n0 ≤ (s.length : Int) := ⟨by omega, qu.2.2⟩
        gi_wp2
        have hgl1 : ∀ b, b < E.GB → w1.heap[b]? = E.W0.heap[b]? := fun b hbb => (hb1.block b (by omega)).trans (hglr b hbb)
        have hgb1 : E.GB ≤ w1.heap.size := by have := hb1.size; omega
        refine ⟨trivial, fun h => (by cases h), (callsIn_wide.2 (trimSuffix_calls (E := E) hl hul w1 hgl1 hgb1)).mono ?_⟩
        rintro e w2 ⟨⟨rfl, hll⟩, hb2⟩
        have hb12 : Below wr.heap.size wr w2 := hb1.trans (hb2.mono hb1.size)
        have hcell2 : w2.cell? ⟨b0, o0, none⟩ = some (.string ⟨s.toArray⟩) := (cell_congr (hb12.block b0 hlt0)).trans hcell
        have hJ2 : J pre w2 := hJ pre wr w2 none hJp ⟨hb12.os, hb12.tape, hb12.output, hb12.size, fun k hk _ => hb12.block k hk⟩ (fun r e => by cases e)
        obtain ⟨yfn, ytm, yas, ybd, hy, hR⟩ := hY pre (line, at_ + (n0 + 1)) w2 hJ2 ⟨tl, hit⟩
        dsimp only [lineEnc] at hy
        gi_wp2
        have hK2 : KpR E b0 o0 W w2 := hK.trans ⟨fun v hv => (cell_congr (hb12.block b0 hlt0)).trans hv, fun b hbb => hb12.block b (by omega), hb12.size⟩
        refine ⟨fun h => (by cases h), hR.mono ?_⟩
        rintro e w3 (⟨rfl, hJ3, hk3⟩ | ⟨rfl, hx3⟩)
        · gi_wp2
          go_roundw
          case rel => exact ⟨at_ + (n0 + 1), pre ++ [(line, at_ + (n0 + 1))], tl, k, rfl, htl2, by rw [hit, List.append_assoc]; rfl, hJ3, hK2.trans hk3⟩
          case measure => simp [intOf]; omega
        · gi_wp2
          refine bodyPost_ret (results_none rfl _ _ _) rfl ?_
          exact ⟨⟨_, rfl⟩, .inr ⟨pre ++ [(line, at_ + (n0 + 1))], ⟨tl, by rw [hit, List.append_assoc]; rfl⟩, hx3⟩⟩
    · rw [decide_eq_false hlt, cond_false] at h
      injection h with h
      subst h
      gi_wp2
      go_end0
      exact ⟨⟨_, rfl⟩, .inl hJp⟩
end Go.Proofs.YtommkfooolabhaaGreatDoor
