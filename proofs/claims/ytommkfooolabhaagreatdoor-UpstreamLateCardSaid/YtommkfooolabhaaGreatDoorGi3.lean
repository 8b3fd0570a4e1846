/-
  The plain images of package head's functions (a range over an iterator of its own).
-/
import Derived.Test.YtommkfooolabhaaGreatDoorIh1
namespace Go.Proofs.YtommkfooolabhaaGreatDoor
open Go Go.Pm
set_option linter.unusedSimpArgs false
set_option linter.unusedVariables false
noncomputable def head_items (s : Bytes) : Nat → Int → Option (List (Bytes × Int))
  | 0, _ => none
  | k + 1, at_ => bif (decide (at_ < (s.length : Int))) then
      (slc s at_ (s.length : Int)).bind fun t =>
      (strings_IndexByte t 10).bind fun n =>
      bif (decide (n < 0)) then some [] else
      (slc s at_ (IntKind.i64.wrap (at_ + n))).bind fun u =>
      (strings_TrimSuffix u [13]).bind fun line =>
      (head_items s k (IntKind.i64.wrap (at_ + IntKind.i64.wrap (n + 1)))).bind fun l => some ((line, IntKind.i64.wrap (at_ + IntKind.i64.wrap (n + 1))) :: l)
    else some []
noncomputable def head_rows (s : Bytes) : Option (List (Bytes × Int)) := head_items s (s.length + 1) 0
def head_find (n : Nat) : List (Bytes × Int) → (Int × Int)
  | [] => bif (decide ((n : Int) > 4000)) then (0, 2) else (0, 3)
  | (line, at_) :: l => bif (decide (at_ > 4000)) then (0, 2) else bif (line == []) then (at_, 0) else head_find n l
noncomputable def head_End (s : Bytes) : Option (Int × Int) := (head_rows s).bind fun l => some (head_find s.length l)
noncomputable def head_fold : List (Bytes × Int) → List S_Field → Option (List S_Field × Int)
  | [], out => some (out, 0)
  | (line, _) :: l, out =>
    (strings_Cut line [58]).bind fun c =>
    (text_Trim c.2.1).bind fun v =>
    (table_Add out c.1 v).bind fun a =>
    bif (bif (!c.2.2) then true else (a.2 == (1 : Int))) then some ([], 31) else
    bif (a.2 != (0 : Int)) then some ([], a.2) else head_fold l a.1
noncomputable def head_Parse (s : Bytes) : Option (List S_Field × Int) :=
  bif (decide ((s.length : Int) > 4000)) then some ([], 2) else
  (gidx (!(s == [])) s (IntKind.i64.wrap ((s.length : Int) - 1))).bind fun b =>
  bif (bif (!(s == [])) then ((b.toNat : Int) != 10) else false) then some ([], 31) else
  (head_rows s).bind fun l => head_fold l []
end Go.Proofs.YtommkfooolabhaaGreatDoor
