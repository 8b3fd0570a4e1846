/-
  Plain laws of layer 22: Ask, Recv and Gone on few connections; what has no free variable is reckoned by the kernel.
-/
import Derived.Test.YtommkfooolabhaaGreatDoorIw1
import Derived.KernelRfl
open _root_.Option renaming bind_some -> aAm
namespace Go.Proofs.YtommkfooolabhaaGreatDoor
open Go Go.Pm
set_option linter.unusedSimpArgs false
set_option maxRecDepth 1000000
set_option linter.unusedVariables false
def R0 : S_Reader := S_Reader.mk false ([71, 69, 84] : Bytes) ([] : Bytes) false (S_Message.mk (S_Start.mk ([] : Bytes) ([] : Bytes) (0 : Int) ([] : Bytes) (0 : Int)) ([] : List S_Field) ([] : Bytes)) (S_Body.mk (0 : Int) (0 : Int)) (S_Chunked.mk (0 : Int) ([] : Bytes) (0 : Int) (0 : Int)) (0 : Int)
def RB : S_Reader := { R0 with Buf := [72] }
def noM : S_Message := S_Message.mk (S_Start.mk ([] : Bytes) ([] : Bytes) (0 : Int) ([] : Bytes) (0 : Int)) ([] : List S_Field) ([] : Bytes)
def noF : S_Fetch := S_Fetch.mk 0 [] [] [] false 0 false
def noR : S_Reader := S_Reader.mk false [] [] false noM (S_Body.mk 0 0) (S_Chunked.mk 0 [] 0 0) 0
def ans : Bytes := [72, 84, 84, 80, 47, 49, 46, 49, 32, 50, 48, 48, 32, 79, 75, 13, 10, 67, 111, 110, 116, 101, 110, 116, 45, 76, 101, 110, 103, 116, 104, 58, 32, 48, 13, 10, 13, 10]
def msg : S_Message := S_Message.mk (S_Start.mk [] [] 200 [79, 75] 1) [S_Field.mk [67, 111, 110, 116, 101, 110, 116, 45, 76, 101, 110, 103, 116, 104] [48]] []
def FG (i : Int) (b : Bytes) (a : Bool) (d : Int) (t : Bool) : S_Fetch := S_Fetch.mk i [111] b [71, 69, 84] a d t
def U0 : S_Up := S_Up.mk 0 0 [] []
def UC (nx k i : Int) (b : Bytes) (a t : Bool) (r : S_Reader) (g : Bool) (us : Int) : S_Up := S_Up.mk 0 nx [S_Conn.mk k [111] (FG i b a 10 t) r g us] []
def sZ (k : Int) : S_Act := S_Act.mk 1 k [111] [] 0 noM 0
def r6 (k : Int) (b : Bytes) : S_Act := S_Act.mk 2 k [] b 0 noM 0
def nK (i : Int) (m : S_Message) (e : Int) : S_Act := S_Act.mk 4 0 [] [] i m e
theorem jK {i : Int} {b : Bytes} {a t : Bool} {d : Int} (hi : 1 <= i) (h1 : 1 <= b.length) (h2 : b.length <= 30000) : upstream_fetch (FG i b a d t) = some true := by
  have e0 : decide ((FG i b a d t).Id ≥ 1) = true := decide_eq_true hi
  have e1 : decide (((FG i b a d t).Bytes.length : Int) ≥ 1) = true := decide_eq_true (show (1 : Int) <= (b.length : Int) by omega)
  have e2 : decide (((FG i b a d t).Bytes.length : Int) <= 30000) = true := decide_eq_true (show (b.length : Int) <= 30000 by omega)
  unfold upstream_fetch
  rw [e0, e1, e2]
  rfl
theorem dY {nx k i us : Int} {b : Bytes} {a t g : Bool} {r : S_Reader} (hi : 1 <= i) (h1 : 1 <= b.length) (h2 : b.length <= 30000) (hR : upstream_Right (UC nx k i b a t r g us) = loopO (upstream_Right_b1 (UC nx k i b a t r g us)) (0, 0))
    (hb : upstream_Right_b1 (UC nx k i b a t r g us) (0, 0) = some (.inl (k, 1))) (hf : upstream_fetches (UC nx k i b a t r g us) = some [FG i b a 10 t]) : upstream_Right (UC nx k i b a t r g us) = some true := by
  rw [hR, f0, hb]
  show loopO (upstream_Right_b1 (UC nx k i b a t r g us)) (k, 1) = some true
  rw [f0]
  have e2 : upstream_Right_b1 (UC nx k i b a t r g us) (k, 1) = (upstream_fetches (UC nx k i b a t r g us)).bind fun x6 => loopO (upstream_Right_b2 (UC nx k i b a t r g us) x6) ((0 : Int), ([] : List (Int × Bool))) := rfl
  rw [e2, hf, aAm, f0]
  have e3 : upstream_Right_b2 (UC nx k i b a t r g us) [FG i b a 10 t] (0, []) = some (.inl (1, [(i, true)])) := by
    unfold upstream_Right_b2
    dsimp only
    rw [show (decide ((0 : Int) < (([FG i b a 10 t]).length : Int))) = true from rfl, xP, show idx [FG i b a 10 t] (0 : Int) = some (FG i b a 10 t) from rfl, aAm, jK hi h1 h2]
    rfl
  rw [e3]
  show (match loopO (upstream_Right_b2 (UC nx k i b a t r g us) [FG i b a 10 t]) (1, [(i, true)]) with | none => none | some (.inl y) => loopO (upstream_Right_b1 (UC nx k i b a t r g us)) y | some (.inr r) => some r) = some true
  rw [f0]
  rfl
theorem ask0 {i : Int} {b : Bytes} {a t : Bool} {d : Int} (hi : i = 1 ∨ i = 2) (h1 : 1 <= b.length) (h2 : b.length <= 30000) : upstream_Ask U0 (FG i b a d t) = some (UC 1 1 i b a false R0 false 0, [sZ 1, r6 1 b], 0) := by
  unfold upstream_Ask
  rw [jK (by omega) h1 h2]
  rcases hi with rfl | rfl <;> kernel_rfl
section
variable {b : Bytes} {a : Bool} (h1 : 1 <= b.length) (h2 : b.length <= 30000)
include h1 h2
theorem pM : upstream_Right (UC 1 1 1 b a false R0 false 0) = some true := dY (by decide) h1 h2 rfl (by kernel_rfl) (by kernel_rfl)
theorem lS : upstream_Right (UC 1 1 1 b a false R0 false 1) = some true := dY (by decide) h1 h2 rfl (by kernel_rfl) (by kernel_rfl)
theorem r7 : upstream_Right (UC 1 1 1 b a false RB true 0) = some true := dY (by decide) h1 h2 rfl (by kernel_rfl) (by kernel_rfl)
theorem r8 : upstream_Right (UC 1 1 1 b a false RB true 1) = some true := dY (by decide) h1 h2 rfl (by kernel_rfl) (by kernel_rfl)
theorem r9 : upstream_Right (UC 2 2 1 b true true R0 false 0) = some true := dY (by decide) h1 h2 rfl (by kernel_rfl) (by kernel_rfl)
theorem ask2 {t : Bool} {d : Int} : upstream_Ask (S_Up.mk 0 1 [S_Conn.mk 1 [111] noF noR false 1] []) (FG 1 b a d t) = some (UC 1 1 1 b a false R0 false 1, [r6 1 b], 0) := by
  unfold upstream_Ask
  rw [jK (by omega) h1 h2]
  kernel_rfl
theorem s9 : upstream_Recv (UC 1 1 1 b a false R0 false 0) 1 [72] = some (UC 1 1 1 b a false RB true 0, [], 0) := by
  unfold upstream_Recv
  rw [pM h1 h2]
  kernel_rfl
theorem tA : upstream_Recv (UC 1 1 1 b a false R0 false 1) 1 [72] = some (UC 1 1 1 b a false RB true 1, [], 0) := by
  unfold upstream_Recv
  rw [lS h1 h2]
  kernel_rfl
theorem tB : upstream_Gone (UC 1 1 1 b a false R0 false 0) 1 false = some (S_Up.mk 0 1 [] [], [nK 1 noM 63], 0) := by
  unfold upstream_Gone
  rw [pM h1 h2]
  cases a <;> kernel_rfl
theorem tC : upstream_Gone (UC 1 1 1 b a false RB true 0) 1 false = some (S_Up.mk 0 1 [] [], [nK 1 noM 63], 0) := by
  unfold upstream_Gone
  rw [r7 h1 h2]
  cases a <;> kernel_rfl
theorem tD : upstream_Gone (UC 1 1 1 b a false RB true 1) 1 false = some (S_Up.mk 0 1 [] [], [nK 1 noM 63], 0) := by
  unfold upstream_Gone
  rw [r8 h1 h2]
  cases a <;> kernel_rfl
theorem sA : upstream_Gone (UC 1 1 1 b false false R0 false 1) 1 false = some (S_Up.mk 0 1 [] [], [nK 1 noM 63], 0) := by
  unfold upstream_Gone
  rw [lS h1 h2]
  kernel_rfl
theorem sB : upstream_Gone (UC 1 1 1 b true false R0 false 1) 1 false = some (UC 2 2 1 b true true R0 false 0, [sZ 2, r6 2 b], 0) := by
  unfold upstream_Gone
  rw [lS h1 h2]
  kernel_rfl
theorem tE : upstream_Gone (UC 2 2 1 b true true R0 false 0) 2 false = some (S_Up.mk 0 2 [] [], [nK 1 noM 63], 0) := by
  unfold upstream_Gone
  rw [r9 h1 h2]
  kernel_rfl
end
theorem qN : upstream_Recv (UC 1 1 2 [120] false false R0 false 0) 1 ans = some (S_Up.mk 0 1 [S_Conn.mk 1 [111] noF noR false 1] [], [nK 2 msg 0], 0) := by kernel_rfl
theorem cZ : intarsialaw22_alive = some true := by kernel_rfl
theorem lT {α : Type} (l : List α) (k : Nat) {K : Int} (hK : K = (k : Int)) : slc l 0 (imin (l.length : Int) K) = some (l.take k) := by
  subst hK
  unfold slc imin
  by_cases h : (k : Int) < (l.length : Int)
  · rw [if_pos h, chk, if_pos (by omega)]; simp
  · rw [if_neg h, chk, if_pos (by omega)]
    simp only [Int.toNat_zero, List.drop_zero, Int.toNat_natCast, Nat.sub_zero]
    rw [List.take_length, List.take_of_length_le (by omega)]
theorem tF (f : S_Fetch) : intarsialaw22_few f = some (S_Fetch.mk f.Id (f.Origin.take 110) (f.Bytes.take 400) (f.Method.take 20) f.Again f.Due f.Tried) := by
  unfold intarsialaw22_few
  rw [lT f.Origin 110 (K := 110) rfl, aAm, lT f.Bytes 400 (K := 400) rfl, aAm, lT f.Method 20 (K := 20) rfl]; rfl
theorem fA (a0 : S_Fetch) (a1 a2 : Bool) (a3 : Bytes) : intarsialaw22_UpstreamAgain a0 a1 a2 a3 = some true := by
  unfold intarsialaw22_UpstreamAgain
  rw [tF, aAm]
  have hl : (a0.Bytes.take 400).length <= 400 := by simp; omega
  show (cat [98] (a0.Bytes.take 400)).bind _ = _
  generalize a0.Bytes.take 400 = l at hl
  have hc : cat [98] l = some (98 :: l) := by
    unfold cat chk
    rw [if_pos (by simp [maxLen]; omega)]; rfl
  rw [hc, aAm]
  have h1 : 1 <= (98 :: l).length := by simp
  have h2 : (98 :: l).length <= 30000 := by simp; omega
  generalize (98 :: l : Bytes) = b at h1 h2
  have hbb : (b == b) = true := beq_self_eq_true b
  generalize a0.Due = d
  generalize a0.Tried = t
  cases a2 with
  | true =>
    rw [xP]
    show ((upstream_Ask U0 (FG 2 [120] false 0 false)).bind fun x3 => (upstream_Recv (x3.1) 1 ans).bind _) = _
    rw [ask0 (.inr rfl) (by decide) (by decide), aAm, qN, aAm]
    show ((upstream_Ask (S_Up.mk 0 1 [S_Conn.mk 1 [111] noF noR false 1] []) (FG 1 b a1 d t)).bind _) = _
    rw [ask2 h1 h2, aAm]
    show (bif (!(b == b)) then some false else bif (decide ((a3.length : Int) > (0 : Int))) then _ else _) = some true
    rw [hbb]
    show (bif (decide ((a3.length : Int) > (0 : Int))) then _ else _) = some true
    cases hd : decide ((a3.length : Int) > (0 : Int)) with
    | true =>
      rw [xP]
      show ((upstream_Recv (UC 1 1 1 b a1 false R0 false 1) 1 [72]).bind _) = _
      rw [tA h1 h2, aAm]
      show ((upstream_Gone (UC 1 1 1 b a1 false RB true 1) 1 false).bind _) = _
      rw [tD h1 h2, aAm]
      show ((gcall true intarsialaw22_alive).bind _) = _
      rw [cZ]
      cases a1 <;> rfl
    | false =>
      rw [xQ]
      cases a1 with
      | false =>
        show ((upstream_Gone (UC 1 1 1 b false false R0 false 1) 1 false).bind _) = _
        rw [sA h1 h2, aAm]
        show ((gcall true intarsialaw22_alive).bind _) = _
        rw [cZ]
        rfl
      | true =>
        show ((upstream_Gone (UC 1 1 1 b true false R0 false 1) 1 false).bind _) = _
        rw [sB h1 h2, aAm]
        show ((gcall true intarsialaw22_alive).bind _) = _
        rw [cZ]
        show (bif (!(b == b)) then some false else _) = some true
        rw [hbb]
        show ((upstream_Gone (UC 2 2 1 b true true R0 false 0) 2 false).bind _) = _
        rw [tE h1 h2, aAm]
        rfl
  | false =>
    rw [xQ]
    show ((upstream_Ask U0 (FG 1 b a1 d t)).bind _) = _
    rw [ask0 (.inl rfl) h1 h2, aAm]
    show (bif (!(b == b)) then some false else bif (decide ((a3.length : Int) > (0 : Int))) then _ else _) = some true
    rw [hbb]
    show (bif (decide ((a3.length : Int) > (0 : Int))) then _ else _) = some true
    cases hd : decide ((a3.length : Int) > (0 : Int)) with
    | true =>
      rw [xP]
      show ((upstream_Recv (UC 1 1 1 b a1 false R0 false 0) 1 [72]).bind _) = _
      rw [s9 h1 h2, aAm]
      show ((upstream_Gone (UC 1 1 1 b a1 false RB true 0) 1 false).bind _) = _
      rw [tC h1 h2, aAm]
      show ((gcall true intarsialaw22_alive).bind _) = _
      rw [cZ]
      cases a1 <;> rfl
    | false =>
      rw [xQ]
      show ((upstream_Gone (UC 1 1 1 b a1 false R0 false 0) 1 false).bind _) = _
      rw [tB h1 h2, aAm]
      show ((gcall true intarsialaw22_alive).bind _) = _
      rw [cZ]
      cases a1 <;> rfl
end Go.Proofs.YtommkfooolabhaaGreatDoor
