/-
  Plain laws of the wire, 4: which readers may be; WireWild.
-/
import Derived.Test.YtkfoahoplndelaaGreatDoorPw3
namespace Go.Proofs.YtkfoahoplndelaaGreatDoor
open Go Go.Pm
set_option linter.unusedVariables false
set_option maxRecDepth 100000
theorem empty_tot (h : S_Message) : Tot (wire_empty h) (fun b => b = true ↔ h = zeroM) := by
  unfold wire_empty
  refine .now ?_
  obtain ⟨⟨a, b, c, d, e⟩, f, g⟩ := h
  unfold zeroM zeroS
  cases f <;> simp [and_assoc] <;> intros <;> omega
theorem bare_tot (r : S_Reader) : Tot (wire_bare r) (fun b => b = true ↔ (r.Buf = [] ∧ r.In = false ∧ r.Head = zeroM ∧ r.Body = B 0 0 ∧ r.Chunk = zeroC)) := by
  obtain ⟨A, M, Bf, I, H, ⟨k, z⟩, ⟨c1, c2, c3, c4⟩, E⟩ := r
  obtain ⟨x, hx, hi⟩ := empty_tot H
  unfold wire_bare
  rw [show gcall _ (wire_empty (S_Reader.mk A M Bf I H (S_Body.mk k z) (S_Chunked.mk c1 c2 c3 c4) E).Head) = _ from gcall_val (fun _ => hx), Option.bind_some]
  refine .now ?_
  unfold B zeroC
  dsimp only
  cases hb : (Bf == ([] : Bytes)) with
  | false =>
    have : Bf ≠ [] := by simpa using hb
    simp [this]
  | true =>
    have hb : Bf = [] := by simpa using hb
    cases I with
    | true => simp
    | false =>
      cases x with
      | false =>
        have : H ≠ zeroM := fun h => by have := hi.2 h; cases this
        simp [this]
      | true => simp [hb, hi.1 rfl, and_assoc]
theorem bodyEq (a b : S_Body) : ((a.Kind == b.Kind) && ((a.Size == b.Size) && true)) = true ↔ a = b := by
  obtain ⟨a1, a2⟩ := a
  obtain ⟨b1, b2⟩ := b
  simp
theorem zeroCh (c : S_Chunked) : ((c.Stage == (0 : Int)) && ((c.Line == ([] : Bytes)) && ((c.Left == (0 : Int)) && ((c.Size == (0 : Int)) && true)))) = true ↔ c = zeroC := by
  obtain ⟨c1, c2, c3, c4⟩ := c
  unfold zeroC
  simp
theorem right_tot {r : S_Reader} (hs : SSmall r.Head.Start) (hf : FRow r.Head.Fields) (hl : r.Head.Body.length ≤ 40000) : Tot (wire_Right r) (fun b => b = true ↔ XOk r.Asks r.Method r) := by
  obtain ⟨A, M, Bf, I, H, Bd, C, E⟩ := r
  simp only at hs hf hl
  unfold wire_Right
  dsimp only
  by_cases hE : E = 0
  · subst hE
    rw [show ((0 : Int) != 0) = false from rfl, cond_false]
    cases I with
    | false =>
      rw [show (!false) = true from rfl, cond_true]
      obtain ⟨x, hx, hi⟩ := bare_tot (S_Reader.mk A M [] false H Bd C 0)
      rw [hx, Option.bind_some]
      refine .now ⟨fun h => ?_, fun h => ?_⟩
      · cases x with
        | false => cases h
        | true =>
          have hb : decide ((Bf.length : Int) ≤ 4000) = true := h
          have hb := of_decide_eq_true hb
          obtain ⟨_, _, h1, h2, h3⟩ := hi.1 rfl
          simp only at h1 h2 h3
          subst h1 h2 h3
          exact .out _ (by omega)
      · have : H = zeroM ∧ Bd = B 0 0 ∧ C = zeroC ∧ Bf.length ≤ 4000 := by
          cases h with
          | bad e he => exact absurd rfl he
          | out _ hb => exact ⟨rfl, rfl, rfl, hb⟩
        obtain ⟨rfl, rfl, rfl, hb⟩ := this
        rw [hi.2 ⟨rfl, rfl, rfl, rfl, rfl⟩, cond_true]
        exact decide_eq_true (by omega)
    | true =>
      rw [show (!true) = false from rfl, cond_false, wbody_eq (r := S_Reader.mk A M Bf true H Bd C 0) hs hf, Option.bind_some]
      show Tot (bif (bif (bif (bif (((bodyB A M H)).2 != (0 : Int)) then true else (!((((bodyB A M H).1.Kind) == (Bd.Kind)) && ((((bodyB A M H).1.Size) == (Bd.Size)) && true)))) then true else (!(Bf == ([] : Bytes)))) then true else (bif (((bodyB A M H).1.Kind) != (2 : Int)) then (!(((C.Stage) == (0 : Int)) && (((C.Line) == ([] : Bytes)) && (((C.Left) == (0 : Int)) && (((C.Size) == (0 : Int)) && true))))) else false)) then _ else _) _
      have key : XOk A M (S_Reader.mk A M Bf true H Bd C 0) → bodyB A M H = (Bd, 0) ∧ Bf = [] ∧ RIn A M H Bd C ∧ (Bd.Kind = 1 → (H.Body.length : Int) < Bd.Size) ∧ Bd.Kind ≠ 0 := fun h => by
        cases h with
        | inn _ _ _ hr h1 h0 => exact ⟨hr.body, rfl, hr, h1, h0⟩
      generalize hbb : bodyB A M H = bb at key ⊢
      by_cases h2 : bb.2 = 0
      · rw [show (bb.2 != (0 : Int)) = false by rw [h2]; rfl, cond_false]
        cases hb : ((bb.1.Kind == Bd.Kind) && ((bb.1.Size == Bd.Size) && true)) with
        | false =>
          refine .now ⟨fun h => (by cases h), fun h => ?_⟩
          have := (key h).1
          have : (bb.1.Kind == Bd.Kind) && ((bb.1.Size == Bd.Size) && true) := (bodyEq _ _).2 (by rw [this])
          rw [this] at hb
          cases hb
        | true =>
          have hb := (bodyEq _ _).1 hb
          subst hb
          rw [show (!true) = false from rfl, cond_false]
          cases hf0 : (Bf == ([] : Bytes)) with
          | false =>
            refine .now ⟨fun h => (by cases h), fun h => ?_⟩
            have := (key h).2.1
            rw [this] at hf0
            cases hf0
          | true =>
            have hf0 : Bf = [] := by simpa using hf0
            subst hf0
            rw [show (!true) = false from rfl, cond_false]
            have hbody : bodyB A M H = (bb.1, 0) := by rw [hbb, ← h2]
            have hko := (bodyB_ok (asks := A) (m := M) (h := H) (by rw [hbody])).kind
            rw [hbody] at hko
            have hko : KindOk bb.1 := hko
            generalize bb.1 = Bd at *
            cases hc : (bif (Bd.Kind != (2 : Int)) then (!(((C.Stage) == (0 : Int)) && (((C.Line) == ([] : Bytes)) && (((C.Left) == (0 : Int)) && (((C.Size) == (0 : Int)) && true))))) else false) with
            | true =>
              refine .now ⟨fun h => (by cases h), fun h => ?_⟩
              have hr := (key h).2.2.1
              by_cases hk : Bd.Kind = 2
              · rw [hk] at hc; cases hc
              · have := hr.noch hk
                subst this
                rw [(zeroCh zeroC).2 rfl] at hc
                have e : (Bd.Kind != (2 : Int)) = true := by simpa using hk
                rw [e] at hc
                cases hc
            | false =>
              have hnc : Bd.Kind ≠ 2 → C = zeroC := fun hk => by
                have e : (Bd.Kind != (2 : Int)) = true := by simpa using hk
                rw [e, cond_true] at hc
                refine (zeroCh C).1 ?_
                simpa using hc
              rw [cond_false]
              rcases hko with rfl | ⟨z, hz0, hz1, rfl⟩ | rfl | rfl
              · refine .now ⟨fun h => (by cases h), fun h => absurd rfl (key h).2.2.2.2⟩
              · refine .now ⟨fun h => ?_, fun h => ?_⟩
                · have h := of_decide_eq_true h
                  have h : (H.Body.length : Int) < z := h
                  exact .inn _ _ _ ⟨hs, hf, hbody, hl, hnc, fun _ => by show (H.Body.length : Int) ≤ z; omega, fun h => (by cases h), fun h => (by cases h)⟩ (fun _ => h) (by simp [B])
                · exact decide_eq_true ((key h).2.2.2.1 rfl)
              · obtain ⟨x, hx, hi⟩ := chRight (c := C)
                show Tot ((chunk_Right C).bind _) _
                rw [hx, Option.bind_some]
                refine .now ⟨fun h => ?_, fun h => ?_⟩
                · cases x with
                  | false => cases h
                  | true =>
                    cases h4 : (C.Stage != (4 : Int)) with
                    | false => rw [cond_true, h4] at h; cases h
                    | true =>
                      rw [cond_true, h4, cond_true] at h
                      exact .inn _ _ _ ⟨hs, hf, hbody, hl, hnc, fun h => (by cases h), fun _ => ⟨hi.1 rfl, by simpa using h4, by simpa using h⟩, fun h => (by cases h)⟩ (fun h => by cases h) (by simp [B])
                · obtain ⟨g1, g2, g3⟩ := (key h).2.2.1.k2 rfl
                  rw [hi.2 g1, cond_true, show (C.Stage != (4 : Int)) = true by simpa using g2, cond_true, g3]
                  simp
              · refine .now ⟨fun h => ?_, fun h => ?_⟩
                · have h := of_decide_eq_true h
                  exact .inn _ _ _ ⟨hs, hf, hbody, hl, hnc, fun h => (by cases h), fun h => (by cases h), fun _ => by omega⟩ (fun h => by cases h) (by simp [B])
                · have := (key h).2.2.1.k3 rfl
                  exact decide_eq_true (by omega)
      · have e : (bb.2 != (0 : Int)) = true := by simpa using h2
        rw [e, cond_true, cond_true, cond_true, cond_true]
        refine .now ⟨fun h => (by cases h), fun h => ?_⟩
        have := (key h).1
        rw [this] at h2
        exact absurd rfl h2
  · have e : (E != (0 : Int)) = true := by simpa using hE
    rw [e, cond_true]
    obtain ⟨x, hx, hi⟩ := bare_tot (S_Reader.mk A M Bf I H Bd C E)
    rw [hx, Option.bind_some]
    refine .now ⟨fun h => ?_, fun h => hi.2 ?_⟩
    · obtain ⟨h1, h2, h3, h4, h5⟩ := hi.1 h
      simp only at h1 h2 h3 h4 h5
      subst h1 h2 h3 h4 h5
      exact .bad _ hE
    · cases h with
      | bad => exact ⟨rfl, rfl, rfl, rfl, rfl⟩
      | out => exact absurd rfl hE
      | inn => exact absurd rfl hE
theorem zeroM_small : SSmall zeroM.Start ∧ FRow zeroM.Fields := ⟨⟨Nat.zero_le _, Nat.zero_le _, Nat.zero_le _⟩, ⟨by simp [zeroM], fun f hf => by cases hf⟩⟩
theorem XOk.head {a : Bool} {m : Bytes} {r : S_Reader} (h : XOk a m r) : SSmall r.Head.Start ∧ FRow r.Head.Fields ∧ r.Head.Body.length ≤ 40000 := by
  cases h with
  | bad => exact ⟨zeroM_small.1, zeroM_small.2, Nat.zero_le _⟩
  | out => exact ⟨zeroM_small.1, zeroM_small.2, Nat.zero_le _⟩
  | inn _ _ _ hr => exact ⟨hr.start, hr.fields, hr.len⟩
theorem XOk.asks {a : Bool} {m : Bytes} {r : S_Reader} (h : XOk a m r) : r.Asks = a ∧ r.Method = m := by
  cases h <;> exact ⟨rfl, rfl⟩
theorem XOk.right {a : Bool} {m : Bytes} {r : S_Reader} (h : XOk a m r) : wire_Right r = some true := by
  obtain ⟨h1, h2, h3⟩ := h.head
  obtain ⟨x, hx, hi⟩ := right_tot h1 h2 h3
  rw [hx, hi.2 (by rw [h.asks.1, h.asks.2]; exact h)]
theorem XOk.buf {a : Bool} {m : Bytes} {r : S_Reader} (h : XOk a m r) : r.Buf.length ≤ 4000 := by
  cases h with
  | bad => exact Nat.zero_le _
  | out _ hb => exact hb
  | inn => exact Nat.zero_le _
theorem XOk.body {a : Bool} {m : Bytes} {r : S_Reader} (h : XOk a m r) : r.Head.Body.length ≤ 20000 := by
  cases h with
  | bad => exact Nat.zero_le _
  | out => exact Nat.zero_le _
  | inn h b c hr h1 h0 =>
    show h.Body.length ≤ 20000
    rcases hr.kind.kind with rfl | ⟨z, hz0, hz1, rfl⟩ | rfl | rfl
    · exact absurd rfl h0
    · have : (h.Body.length : Int) < z := h1 rfl
      omega
    · obtain ⟨g1, _, g3⟩ := hr.k2 rfl
      have := g1.size
      omega
    · exact hr.k3 rfl
/-! ### Feeding -/
def zeroR : S_Reader := S_Reader.mk false [] [] false zeroM (B 0 0) zeroC 0
theorem feed_tot {r : S_Reader} {s : Bytes} (hr : XOk r.Asks r.Method r) (h0 : r.Bad = 0) (hs : s.length ≤ 40000) : Tot (wire_Feed r s) (fun x => XOk r.Asks r.Method x.1 ∧ x.2.2 = 0) := by
  have hb := hr.buf
  unfold wire_Feed
  rw [hr.right, Option.bind_some, show (!true) = false from rfl, cond_false, h0, show ((0 : Int) != 0) = false from rfl, cond_false]
  have hc : cat r.Buf s = some (r.Buf ++ s) := by unfold cat; rw [chk_pos (by unfold maxLen; simp; omega)]
  rw [hc, Option.bind_some]
  refine feed_loop ⟨rfl, rfl, rfl, by show (r.Buf ++ s).length ≤ _; simp; omega, ?_, fun hin => ?_, fun hin => ?_⟩
  · show ([] : List S_Message).length + (2 * (r.Buf ++ s).length + (bif r.In then 1 else 0)) ≤ 1000000
    cases r.In <;> simp <;> omega
  · have hin : r.In = false := hin
    show r.Head = zeroM ∧ r.Body = B 0 0 ∧ r.Chunk = zeroC
    obtain ⟨A, M, Bf, I, H, Bd, C, E⟩ := r
    simp only at hin h0 hr ⊢
    subst hin h0
    cases hr with
    | bad e he => exact absurd rfl he
    | out => exact ⟨rfl, rfl, rfl⟩
  · have hin : r.In = true := hin
    show RIn r.Asks r.Method r.Head r.Body r.Chunk
    obtain ⟨A, M, Bf, I, H, Bd, C, E⟩ := r
    simp only at hin h0 hr ⊢
    subst hin h0
    cases hr with
    | inn _ _ _ hr => exact hr
theorem feed_bad {r : S_Reader} {s : Bytes} (hr : XOk r.Asks r.Method r) (h0 : r.Bad ≠ 0) : wire_Feed r s = some (r, [], 0) := by
  unfold wire_Feed
  rw [hr.right, Option.bind_some, show (!true) = false from rfl, cond_false, show (r.Bad != (0 : Int)) = true by simpa using h0, cond_true]
theorem feed_none {r : S_Reader} {s : Bytes} (hr : wire_Right r = some false) : wire_Feed r s = some (zeroR, [], 1) := by
  unfold wire_Feed
  rw [hr, Option.bind_some]; rfl
theorem close_none {r : S_Reader} (hr : wire_Right r = some false) : wire_Close r = some ([], 1) := by
  unfold wire_Close
  rw [hr, Option.bind_some]; rfl
theorem close_bad {r : S_Reader} (hr : wire_Right r = some true) (h0 : r.Bad ≠ 0) : wire_Close r = some ([], r.Bad) := by
  unfold wire_Close
  rw [hr, Option.bind_some, show (!true) = false from rfl, cond_false, show (r.Bad != (0 : Int)) = true by simpa using h0, cond_true]
theorem close_tot {r : S_Reader} (hr : wire_Right r = some true) : Tot (wire_Close r) (fun _ => True) := by
  unfold wire_Close
  rw [hr, Option.bind_some]
  refine Tot.br (fun _ => .now trivial) fun _ => Tot.br (fun _ => .now trivial) fun _ => Tot.br (fun _ => .now trivial) fun _ => Tot.br (fun _ => .now trivial) fun _ => .now trivial
/-! ### It runs -/
def aliveL : Bytes := [71, 69, 84, 32, 47, 32, 72, 84, 84, 80, 47, 49, 46, 49]
def aliveS : S_Start := S_Start.mk [71, 69, 84] [47] 0 [] 1
def rd0 (b : Bytes) : S_Reader := S_Reader.mk true [] b false zeroM (B 0 0) zeroC 0
theorem alive_line : start_Parse aliveL = some (aliveS, 0) := by
  have hp : printB aliveS = aliveL := by kernel_rfl
  rw [Parse_eq (by decide), ← hp, (print0 (s := aliveS) (by kernel_rfl) rfl).1]
theorem skip_none {w : S_wire_reading} (h : wire_reading_begin_b1 w = some (.inr w)) : loopO wire_reading_begin_b1 w = some w := by rw [loopO_eq, h]
theorem alive_begin : wire_reading_begin (S_wire_reading.mk (rd0 (aliveL ++ [13, 10, 13, 10])) []) = some (true, S_wire_reading.mk (S_Reader.mk true [] [] true (S_Message.mk aliveS [] []) (B 0 0) zeroC 0) []) := by
  rw [begin_eq, skip_none (by kernel_rfl), Option.bind_some]
  have hE : head_End (S_wire_reading.mk (rd0 (aliveL ++ [13, 10, 13, 10])) []).Reader.Buf = some (18, 0) := by kernel_rfl
  rw [hE, Option.bind_some]
  have hS : slc (S_wire_reading.mk (rd0 (aliveL ++ [13, 10, 13, 10])) []).Reader.Buf 0 18 = some (aliveL ++ [13, 10, 13, 10]) := by kernel_rfl
  show ((slc (S_wire_reading.mk (rd0 (aliveL ++ [13, 10, 13, 10])) []).Reader.Buf 0 18).bind fun x9 => (strings_Cut x9 ([10] : Bytes)).bind fun x10 => begT start_Parse _ _ x10) = _
  rw [hS, Option.bind_some, Cut_one 10 (by decide), Option.bind_some]
  have hC : cutC 10 (aliveL ++ [13, 10, 13, 10]) = (aliveL ++ [13], [13, 10], true) := by kernel_rfl
  rw [hC]
  unfold begT
  have h1 : strings_TrimSuffix (aliveL ++ [13], ([13, 10] : Bytes), true).1 ([13] : Bytes) = some aliveL := by kernel_rfl
  rw [h1, Option.bind_some, alive_line, Option.bind_some]
  rw [show ((aliveS, (0 : Int)).2 != (0 : Int)) = false from rfl, cond_false]
  have h2 : strings_TrimSuffix (aliveL ++ [13], ([13, 10] : Bytes), true).2.1 ([10] : Bytes) = some [13] := by kernel_rfl
  have h3 : strings_TrimSuffix ([13] : Bytes) ([13] : Bytes) = some [] := by kernel_rfl
  have h4 : head_Parse ([] : Bytes) = some ([], 0) := by kernel_rfl
  rw [h2, Option.bind_some, h3, Option.bind_some, h4, Option.bind_some]
  rw [show ((([] : List S_Field), (0 : Int)).2 != (0 : Int)) = false from rfl, cond_false]
  have h5 : wire_body (S_Reader.mk true [] (aliveL ++ [13, 10, 13, 10]) false (S_Message.mk aliveS [] []) (B 0 0) zeroC 0) = some (B 0 0, 0) := by
    rw [wbody_eq (r := S_Reader.mk true [] (aliveL ++ [13, 10, 13, 10]) false (S_Message.mk aliveS [] []) (B 0 0) zeroC 0) ⟨by decide, by decide, by decide⟩ zeroM_small.2]
    kernel_rfl
  dsimp only [rd0, zeroM]
  rw [h5, Option.bind_some]
  rfl
theorem alive_eq : intarsialaw10_alive = some true := by
  have h0 : XOk true [] (rd0 []) := .out [] (by decide)
  have hF : wire_Feed (rd0 []) (aliveL ++ [13, 10, 13, 10]) = some (rd0 [], [S_Message.mk aliveS [] []], 0) := by
    unfold wire_Feed
    rw [h0.right, Option.bind_some, show (!true) = false from rfl, cond_false]
    show ((cat ([] : Bytes) (aliveL ++ [13, 10, 13, 10])).bind fun x2 => loopO (wire_Feed_b1) (S_wire_reading.mk (rd0 x2) [])) = _
    have hc : cat ([] : Bytes) (aliveL ++ [13, 10, 13, 10]) = some (aliveL ++ [13, 10, 13, 10]) := by kernel_rfl
    rw [hc, Option.bind_some, loopO_eq]
    unfold wire_Feed_b1
    rw [show (S_wire_reading.mk (rd0 (aliveL ++ [13, 10, 13, 10])) []).Reader.In = false from rfl, cond_false, alive_begin, Option.bind_some]
    show loopO wire_Feed_b1 _ = _
    rw [loopO_eq]
    unfold wire_Feed_b1
    dsimp only
    have hm : wire_reading_more (S_wire_reading.mk (S_Reader.mk true [] [] true (S_Message.mk aliveS [] []) (B 0 0) zeroC 0) []) = some (true, S_wire_reading.mk (rd0 []) [S_Message.mk aliveS [] []]) := by
      have e : wire_reading_more (S_wire_reading.mk (S_Reader.mk true [] [] true (S_Message.mk aliveS [] []) (B 0 0) zeroC 0) []) = (wire_reading_whole (S_wire_reading.mk (S_Reader.mk true [] [] true (S_Message.mk aliveS [] []) (B 0 0) zeroC 0) [])).bind fun x1 => some (x1.1, x1.2) := rfl
      rw [e, whole_eq (by decide), Option.bind_some]
      rfl
    rw [cond_true, hm, Option.bind_some]
    show loopO wire_Feed_b1 _ = _
    rw [loopO_eq]
    unfold wire_Feed_b1
    rw [show (S_wire_reading.mk (rd0 []) [S_Message.mk aliveS [] []]).Reader.In = false from rfl, cond_false, begin_eq, skip_none (by kernel_rfl), Option.bind_some]
    have hE : head_End (S_wire_reading.mk (rd0 []) [S_Message.mk aliveS [] []]).Reader.Buf = some (0, 3) := by kernel_rfl
    rw [hE]
    rfl
  unfold intarsialaw10_alive wire_New
  rw [Option.bind_some]
  have hF' : wire_Feed (S_Reader.mk true [] ([] : Bytes) false (S_Message.mk (S_Start.mk ([] : Bytes) ([] : Bytes) (0 : Int) ([] : Bytes) (0 : Int)) ([] : List S_Field) ([] : Bytes)) (S_Body.mk (0 : Int) (0 : Int)) (S_Chunked.mk (0 : Int) ([] : Bytes) (0 : Int) (0 : Int)) (0 : Int)) ([71, 69, 84, 32, 47, 32, 72, 84, 84, 80, 47, 49, 46, 49, 13, 10, 13, 10] : Bytes) = some (rd0 [], [S_Message.mk aliveS [] []], 0) := hF
  rw [hF', Option.bind_some]
  show (gidx true [S_Message.mk aliveS [] []] 0).bind _ = some true
  kernel_rfl
/-! ### The law -/
def cutM (h : S_Message) : S_Message := S_Message.mk (cutS h.Start) (cutL h.Fields) (h.Body.take 21000)
theorem few_eq (h : S_Message) : intarsialaw10_few h = some (cutM h) := by
  unfold intarsialaw10_few
  rw [slc_cut h.Start.Method 40 (K := 40) rfl, Option.bind_some, slc_cut h.Start.Target 520 (K := 520) rfl, Option.bind_some, slc_cut h.Start.Reason 120 (K := 120) rfl, Option.bind_some, slc_cut h.Fields 45 (K := 45) rfl, Option.bind_some]
  have hm : (h.Fields.take 45).length ≤ 45 := by simp; omega
  unfold cutM cutL
  generalize h.Fields.take 45 = m at *
  rw [chk_pos ⟨big (by omega), by omega⟩]
  have key : loopO (intarsialaw10_few_b1 m) ((0 : Int), m) = some (m.map cutF) := by
    have h := loopO_rec (body := intarsialaw10_few_b1 m) (fun _ => m.map cutF) (fun x => m.length - x.1.toNat) (fun x => ∃ i : Nat, i ≤ m.length ∧ x = ((i : Int), (m.take i).map cutF ++ m.drop i)) ?_ ((0 : Int), m) ⟨0, Nat.zero_le _, by simp⟩
    · exact h
    · rintro _ ⟨i, hi, rfl⟩
      rcases Nat.lt_or_ge i m.length with hlt | hge
      · left
        have hl : ((m.take i).map cutF).length = i := by simp; omega
        have hget : ((m.take i).map cutF ++ m.drop i)[i]? = some m[i] := by
          rw [List.getElem?_append_right (by omega), hl]
          simp
        have hll : ((m.take i).map cutF ++ m.drop i).length = m.length := by simp; omega
        refine ⟨(((i + 1 : Nat) : Int), (m.take (i + 1)).map cutF ++ m.drop (i + 1)), ?_, ⟨i + 1, hlt, rfl⟩, by simp; omega, rfl⟩
        have hnew : ((m.take i).map cutF ++ m.drop i).set i (cutF m[i]) = (m.take (i + 1)).map cutF ++ m.drop (i + 1) := by
          rw [List.take_succ_eq_append_getElem hlt, List.drop_eq_getElem_cons hlt]
          rw [List.set_append_right _ _ (by omega), hl, Nat.sub_self, List.set_cons_zero, List.map_append, List.append_assoc]; rfl
        unfold intarsialaw10_few_b1
        dsimp only
        rw [dlt_true hlt, cond_true, chk_pos (by omega), idx_at hget, Option.bind_some, slc_cut m[i].Name 60 (K := 60) rfl, Option.bind_some, slc_cut m[i].Value 1010 (K := 1010) rfl, Option.bind_some, chk_pos (by omega), seti_at (by omega), Option.bind_some, wrap_inc hlt (big (by omega))]
        show some (Sum.inl (_, List.set _ i (cutF m[i]))) = _
        rw [hnew]
      · right
        have : i = m.length := by omega
        subst this
        unfold intarsialaw10_few_b1
        dsimp only
        rw [dlt_self, cond_false]
        simp
  rw [key, Option.bind_some, slc_cut h.Body 21000 (K := 21000) rfl, Option.bind_some, chk_pos (by simp), List.take_of_length_le (l := m.map cutF) (by simp)]
  rfl
theorem Like10_refl {h : S_Message} (hl : h.Fields.length ≤ maxLen) : intarsiaref10_Like h h = some true := by
  unfold intarsiaref10_Like
  rw [gcall_val (fun _ => Like_refl hl), Option.bind_some]
  simp
theorem LikeR_refl {r : S_Reader} (hl : r.Head.Fields.length ≤ maxLen) : intarsiaref10_LikeReader r r = some true := by
  unfold intarsiaref10_LikeReader
  rw [gcall_val (fun _ => Like10_refl hl), Option.bind_some]
  simp
theorem WireWild_true (a0 : S_Reader) (a1 : Bytes) : intarsialaw10_WireWild a0 a1 = some true := by
  unfold intarsialaw10_WireWild
  rw [few_eq, Option.bind_some, slc_cut a0.Buf 4100 (K := 4100) rfl, Option.bind_some, slc_cut a0.Method 20 (K := 20) rfl, Option.bind_some, slc_cut a0.Chunk.Line 300 (K := 300) rfl, Option.bind_some, slc_cut a1 1000 (K := 1000) rfl, Option.bind_some, alive_eq]
  have hs : SSmall (cutM a0.Head).Start := cutS_small _
  have hf : FRow (cutM a0.Head).Fields := cutL_row _
  have hl : (cutM a0.Head).Body.length ≤ 21000 := by show (a0.Head.Body.take 21000).length ≤ 21000; simp; omega
  have ht : (a1.take 1000).length ≤ 1000 := by simp; omega
  have hfl : (cutM a0.Head).Fields.length ≤ maxLen := by have := hf.len; unfold maxLen; omega
  generalize a1.take 1000 = t at *
  generalize hr : S_Reader.mk a0.Asks (a0.Method.take 20) (a0.Buf.take 4100) a0.In (cutM a0.Head) a0.Body (S_Chunked.mk a0.Chunk.Stage (a0.Chunk.Line.take 300) a0.Chunk.Left a0.Chunk.Size) a0.Bad = r
  have e1 : r.Head = cutM a0.Head := by rw [← hr]
  have e2 : r.In = a0.In := by rw [← hr]
  have e3 : r.Bad = a0.Bad := by rw [← hr]
  have e4 : r.Asks = a0.Asks := by rw [← hr]
  rw [← e1, ← e2, ← e3, ← e4]
  rw [← e1] at hs hf hl hfl
  clear hr e1 e2 e3 e4
  obtain ⟨x, hx, hi⟩ := right_tot hs hf (by omega)
  cases x with
  | false =>
    rw [feed_none hx, Option.bind_some, close_none hx, Option.bind_some, hx, Option.bind_some]
    show (gcall true (intarsiaref10_LikeReader zeroR zeroR)).bind _ = _
    rw [gcall_tt rfl, LikeR_refl (Nat.zero_le _), Option.bind_some]
    rfl
  | true =>
    have hok := hi.1 rfl
    by_cases h0 : r.Bad = 0
    · obtain ⟨x6, h6, q1, q2⟩ := feed_tot (s := t) hok h0 (by omega)
      obtain ⟨x7, h7, _⟩ := close_tot hx
      rw [h6, Option.bind_some, h7, Option.bind_some, hx, Option.bind_some, h0]
      rw [show (!true) = false from rfl, cond_false, show ((0 : Int) != 0) = false from rfl, cond_false]
      rw [gcall_val (fun _ => refSRight_eq hs), Option.bind_some, gcall_val (fun _ => refRight_eq hfl (fun f hf' => hf.small f hf')), Option.bind_some, Option.bind_some, gcall_val (fun _ => q1.right), Option.bind_some, q2]
      have hb1 := q1.buf
      have hb2 := q1.body
      rw [decide_eq_true (show (x6.1.Buf.length : Int) ≤ 4000 by omega), decide_eq_true (show (x6.1.Head.Body.length : Int) ≤ 20000 by omega)]
      cases hI : r.In with
      | false => rfl
      | true =>
        have hkind : startB r.Head.Start = true ∧ rightB r.Head.Fields = true ∧ (r.Head.Start.Code == (0 : Int)) = r.Asks := by
          obtain ⟨A, M, Bf, I, H, Bd, C, E⟩ := r
          simp only at hI h0 hok ⊢
          subst hI h0
          cases hok with
          | inn _ _ _ hr => exact ⟨hr.kind.start, hr.kind.fields, hr.kind.code⟩
        rw [hkind.1, hkind.2.1, hkind.2.2]
        cases r.Asks <;> rfl
    · rw [feed_bad hok h0, Option.bind_some, close_bad hx h0, Option.bind_some, hx, Option.bind_some]
      rw [show (!true) = false from rfl, cond_false, show (r.Bad != (0 : Int)) = true by simpa using h0, cond_true, Option.bind_some]
      show (gcall true (intarsiaref10_LikeReader r r)).bind _ = _
      rw [gcall_tt rfl, LikeR_refl hfl, Option.bind_some]
      show some (r.Bad == r.Bad) = _
      simp
end Go.Proofs.YtkfoahoplndelaaGreatDoor
