/-
  Plain laws of a client's connection: ClientFaults, ClientWrites.
-/
import Derived.Test.YtkfoahoplndelaaGreatDoorPx2
import Derived.Test.YtkfoahoplndelaaGreatDoorIc1
namespace Go.Proofs.YtkfoahoplndelaaGreatDoor
open Go Go.Pm
set_option linter.unusedVariables false
set_option maxRecDepth 100000
def getM : S_Message := S_Message.mk aliveS [] []
def getT : Bytes := [71, 69, 84, 32, 47, 32, 72, 84, 84, 80, 47, 49, 46, 49, 13, 10, 13, 10]
theorem get_head : HeadOk true [] aliveL aliveS [] (B 0 0) :=
  ⟨by kernel_rfl, by decide, by decide, rfl, by decide, alive_line, by kernel_rfl, ⟨by decide, by decide, by decide⟩, rfl⟩
theorem feed_get {x : Bytes} {O : List S_Message} (hx : x.length ≤ 40000) (hO : O.length ≤ 1000000) : loopO wire_Feed_b1 (outW true [] (getT ++ x) O) = loopO wire_Feed_b1 (outW true [] x (O ++ [getM])) := by
  have h := feed_headOf (x := x) (O := O) get_head hx
  have e : headOf aliveL [] ++ x = getT ++ x := rfl
  rw [e] at h
  rw [h]
  have hm : stepW (inW true [] x (S_Message.mk aliveS [] []) (B 0 0) zeroC O) = some (true, outW true [] x (O ++ [getM])) := by
    rw [stepW_in, more_none hO]; rfl
  have := loop_step hm
  rw [cond_true] at this
  exact this
def gets : Nat → Bytes
  | 0 => []
  | n + 1 => getT ++ gets n
theorem gets_len : ∀ n, (gets n).length = 18 * n
  | 0 => rfl
  | n + 1 => by
    show (getT ++ gets n).length = _
    rw [List.length_append, gets_len n]
    have : getT.length = 18 := rfl
    omega
theorem feed_wait {A : Bool} {M : Bytes} {O : List S_Message} : loopO wire_Feed_b1 (outW A M [] O) = some ((outW A M [] O).Reader, O, 0) := by
  have hs : stepW (outW A M [] O) = some (false, outW A M [] O) := by
    have e0 : stepW (outW A M [] O) = wire_reading_begin (outW A M [] O) := rfl
    rw [e0, begin_J (by simp [outW])]
    have : setBuf (outW A M [] O) (skB (outW A M [] O).Reader.Asks (outW A M [] O).Reader.Buf) = outW A M [] O := by cases A <;> rfl
    rw [this]
    unfold begJ
    rw [show head_End (outW A M [] O).Reader.Buf = some (0, 3) from by show head_End [] = _; kernel_rfl, Option.bind_some]
    rfl
  rw [loop_step hs]
  rfl
theorem feed_gets : ∀ (n : Nat) (O : List S_Message), n ≤ 100 → O.length + n ≤ 1000 → loopO wire_Feed_b1 (outW true [] (gets n) O) = some ((outW true [] [] O).Reader, O ++ List.replicate n getM, 0)
  | 0, O, _, _ => by
    rw [List.replicate_zero, List.append_nil]
    exact feed_wait
  | n + 1, O, hn, hO => by
    show loopO wire_Feed_b1 (outW true [] (getT ++ gets n) O) = _
    have hl := gets_len n
    rw [feed_get (x := gets n) (O := O) (by omega) (by omega)]
    have := feed_gets n (O ++ [getM]) (by omega) (by simp; omega)
    rw [this]
    have e : O ++ [getM] ++ List.replicate n getM = O ++ List.replicate (n + 1) getM := by rw [List.replicate_succ]; simp
    rw [e]
    rfl
/-! ### Clients -/
/-- A client that may be, of which all else is plain. -/
def cl (r : S_Reader) (l : List S_Message) (last : Bool) (f : Int) (q : Bytes) (ends : Bool) : S_Client := S_Client.mk r l last f (S_Queue.mk q 16384) ends
theorem cRight {r : S_Reader} {l : List S_Message} {last : Bool} {f : Int} {q : Bytes} {ends : Bool} (hr : XOk true [] r) (hl : l.length ≤ 8) (hq : q.length ≤ 16384) (hf : f = r.Bad ∨ f = 4) (ho : last = true ∨ (f = 0 ∧ ends = false)) : client_Right (cl r l last f q ends) = some true := by
  unfold client_Right
  show ((wire_Right r).bind _) = _
  rw [hr.right, Option.bind_some]
  have ha := hr.asks.1
  have hm := hr.asks.2
  have hqr : queue_Right (cl r l last f q ends).Out = some true := by
    unfold queue_Right
    show some (bif (bif decide ((16384 : Int) ≥ 1) then decide ((16384 : Int) ≤ 65536) else false) then decide ((q.length : Int) ≤ 16384) else false) = _
    rw [decide_eq_true (show (q.length : Int) ≤ 16384 by omega)]; rfl
  rw [hqr]
  have hl2 : decide ((l.length : Int) > 8) = false := decide_eq_false (by omega)
  show ((gcall (!(bif (bif (bif (!true) then true else (!r.Asks)) then true else (!(r.Method == ([] : Bytes)))) then true else decide ((l.length : Int) > 8))) (some true)).bind _) = _
  rw [ha, hm, hl2]
  show ((gcall true (some true)).bind _) = _
  rw [gcall_tt rfl, Option.bind_some]
  show (bif (bif (bif (bif (bif (bif (!true) then true else (!r.Asks)) then true else (!(r.Method == ([] : Bytes)))) then true else decide ((l.length : Int) > 8)) then true else (!true)) then true else ((16384 : Int) != 16384)) then some false else some (bif (bif (f == r.Bad) then true else (f == (4 : Int))) then (bif last then true else (bif (f == (0 : Int)) then (!ends) else false)) else false)) = _
  rw [ha, hm, hl2]
  show some (bif (bif (f == r.Bad) then true else (f == (4 : Int))) then (bif last then true else (bif (f == (0 : Int)) then (!ends) else false)) else false) = _
  have h1 : (bif (f == r.Bad) then true else (f == (4 : Int))) = true := by
    rcases hf with rfl | rfl
    · simp
    · cases ((4 : Int) == r.Bad) <;> rfl
  have h2 : (bif last then true else (bif (f == (0 : Int)) then (!ends) else false)) = true := by
    rcases ho with rfl | ⟨rfl, rfl⟩
    · rfl
    · cases last <;> rfl
  rw [h1, h2]; rfl
theorem newC : client_New = some (cl (newR true []) [] false 0 [] false) := rfl
theorem recv_on {r r' : S_Reader} {l m : List S_Message} {f : Int} {q s : Bytes} {ends : Bool} (h : client_Right (cl r l false f q ends) = some true) (hF : wire_Feed r s = some (r', m, 0)) (hl : l.length ≤ 8) (hm : m.length ≤ 100000) :
    client_Recv (cl r l false f q ends) s = some (bif decide (l.length + m.length > 8) then cl r' (l ++ m.take (8 - l.length)) true 4 q ends else cl r' (l ++ m) (r'.Bad != (0 : Int)) r'.Bad q ends, 0) := by
  unfold client_Recv client_call_int_client_Recv_1
  rw [h, Option.bind_some]
  have hone : client_Recv_1 (cl r l false f q ends) s = some (((0 : Int), (0 : Int)), bif decide (l.length + m.length > 8) then cl r' (l ++ m.take (8 - l.length)) true 4 q ends else cl r' (l ++ m) (r'.Bad != (0 : Int)) r'.Bad q ends) := by
    unfold client_Recv_1
    show ((wire_Feed r s).bind _) = _
    rw [hF, Option.bind_some]
    have hclip : slices_Clip__api_Message_api_Message l = some l := by
      unfold slices_Clip__api_Message_api_Message slc
      rw [chk_pos (by omega)]
      simp
    show ((slices_Clip__api_Message_api_Message l).bind _) = _
    rw [hclip, Option.bind_some]
    have ew : IntKind.i64.wrap ((8 : Int) - (l.length : Int)) = ((8 - l.length : Nat) : Int) := by rw [wrap_i64 (by omega) (by omega)]; omega
    show ((slc m 0 (imin (m.length : Int) (IntKind.i64.wrap ((8 : Int) - (l.length : Int))))).bind _) = _
    rw [ew, slc_cut m (8 - l.length) rfl, Option.bind_some, app_ok (by simp; omega) (by omega), Option.bind_some]
    show (bif decide ((m.length : Int) > IntKind.i64.wrap ((8 : Int) - (l.length : Int))) then _ else _) = _
    rw [ew]
    by_cases hd : l.length + m.length > 8
    · rw [decide_eq_true hd, decide_eq_true (by omega)]; rfl
    · rw [decide_eq_false hd, decide_eq_false (by omega), cond_false, cond_false]
      have : m.take (8 - l.length) = m := List.take_of_length_le (by omega)
      rw [this]; rfl
  show (((client_Recv_1 (cl r l false f q ends) s).bind _).bind _) = _
  rw [hone]
  rfl
theorem calive_eq : intarsialaw23_alive = some true := by
  unfold intarsialaw23_alive
  rw [newC, Option.bind_some]
  have hr : client_Right (cl (newR true []) [] false 0 [] false) = some true := cRight (newR_ok _ _) (by simp) (by simp) (.inl rfl) (.inr ⟨rfl, rfl⟩)
  have hF : wire_Feed (newR true []) getT = some (newR true [], [getM], 0) := by
    rw [wfeed_eq (newR_ok _ _) rfl (by decide)]
    have := feed_gets 1 [] (by omega) (by simp)
    exact this
  have := recv_on hr hF (by simp) (by simp)
  show ((client_Recv (cl (newR true []) [] false 0 [] false) getT).bind _) = _
  rw [this, Option.bind_some]
  rfl
theorem LikeC_refl {c : S_Client} (h1 : c.Reader.Head.Fields.length ≤ maxLen) (h2 : c.Ready.length ≤ 1000000) (h3 : ∀ m, m ∈ c.Ready → FRow m.Fields) : intarsiaref23_Like c c = some true := by
  unfold intarsiaref23_Like
  rw [LikeR_refl h1, Option.bind_some, gcall_tt rfl, Same_refl h2 h3, Option.bind_some]
  simp
end Go.Proofs.YtkfoahoplndelaaGreatDoor
