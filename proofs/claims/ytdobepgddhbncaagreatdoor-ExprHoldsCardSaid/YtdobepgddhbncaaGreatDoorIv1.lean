/-
  The plain images of the functions, written by a program of mine (gen.py) off the translation.
-/
import Derived.Test.YtdobepgddhbncaaGreatDoorGi7
import Derived.Test.YtdobepgddhbncaaGreatDoorGi6
import Derived.Test.YtdobepgddhbncaaGreatDoorGi1
namespace Go.Proofs.YtdobepgddhbncaaGreatDoor
open Go Go.Pm
noncomputable section
set_option linter.unusedSimpArgs false
set_option linter.unusedVariables false
structure aG where
 Host : aA
 Referer : aA
 Agent : aA
 Cookie : aA
 Language : aA
 Query : aA
instance : Inhabited aG := ⟨⟨default, default, default, default, default, default⟩⟩
def aG.cells (x : aG) : List AV := [AV.str x.Host, AV.str x.Referer, AV.str x.Agent, AV.str x.Cookie, AV.str x.Language, AV.str x.Query]
def aG.av (x : aG) : AV := .agg (aG.cells x)
structure aB where
 Kind : Int
 N : Int
 Text : aA
 Sign : aA
 Kids : (List aB)
instance : Inhabited aB := ⟨⟨default, default, default, default, default⟩⟩
mutual
def aB.avR : aB -> AV
 | ⟨Kind, N, Text, Sign, Kids⟩ => .agg [AV.int .i64 Kind, AV.int .i64 N, AV.str Text, AV.str Sign, AV.list 5 (aB.avRs Kids)]
def aB.avRs : List aB -> List AV
 | [] => []
 | x :: l => aB.avR x :: aB.avRs l
end
theorem aB.avRs_eq : ∀ l, aB.avRs l = l.map aB.avR
 | [] => rfl
 | x :: l => congrArg (aB.avR x :: ·) (aB.avRs_eq l)
def aB.cells (x : aB) : List AV := [AV.int .i64 x.Kind, AV.int .i64 x.N, AV.str x.Text, AV.str x.Sign, AV.list 5 (x.Kids.map aB.avR)]
def aB.av (x : aB) : AV := .agg (aB.cells x)
theorem aB.av_eq (x : aB) : aB.avR x = aB.av x := by
 cases x; unfold aB.avR aB.av aB.cells; rw [aB.avRs_eq]
structure aE where
 Name : aA
 Value : aA
instance : Inhabited aE := ⟨⟨default, default⟩⟩
def aE.cells (x : aE) : List AV := [AV.str x.Name, AV.str x.Value]
def aE.av (x : aE) : AV := .agg (aE.cells x)
structure aC where
 s : aA
 bad : Bool
instance : Inhabited aC := ⟨⟨default, default⟩⟩
def aC.cells (x : aC) : List AV := [AV.str x.s, AV.bool x.bad]
def aC.av (x : aC) : AV := .agg (aC.cells x)
structure bV where
 e0 : aA
 e1 : aA
 e2 : aA
instance : Inhabited bV := ⟨⟨default, default, default⟩⟩
def bV.cells (x : bV) : List AV := [AV.str x.e0, AV.str x.e1, AV.str x.e2]
def bV.av (x : bV) : AV := .agg (bV.cells x)
structure bB where
 e0 : aA
 e1 : aA
instance : Inhabited bB := ⟨⟨default, default⟩⟩
def bB.cells (x : bB) : List AV := [AV.str x.e0, AV.str x.e1]
def bB.av (x : bB) : AV := .agg (bB.cells x)
def cA (a0 : aA) : Option aA :=
 (slc a0 0 (imin (a0.length : Int) 300)).bind fun x1 =>
 some x1
def gR (a0 : aG) : Option aG :=
 (cA a0.Host).bind fun x1 =>
 (cA a0.Referer).bind fun x2 =>
 (cA a0.Agent).bind fun x3 =>
 (cA a0.Cookie).bind fun x4 =>
 (cA a0.Language).bind fun x5 =>
 (cA a0.Query).bind fun x6 =>
 some (aG.mk x1 x2 x3 x4 x5 x6)
def gU (a0 : Int) : Option Bool :=
 some (bif (bif (bif (a0 == 32) then true else (a0 == 9)) then true else (a0 == 10)) then true else (a0 == 13))
def aH (a0 : aA) (a1 : Int) : Option Int :=
 bif (decide (a1 < (a0.length : Int))) then
  (idx a0 a1).bind fun x1 =>
  some (x1.toNat : Int)
 else
  some 0
def eF (a0 : aA) (a2 : aA) (s1 : Int) (s2 : Int) : Option (Int ⊕ (Int ⊕ Int)) :=
 bif (decide (s2 < (a2.length : Int))) then
  (idx a0 s1).bind fun x3 =>
  (idx a2 s2).bind fun x4 =>
  bif ((x3.toNat : Int) == (x4.toNat : Int)) then
   some (.inr (.inr s1))
  else
   some (.inl (IntKind.i64.wrap (s2 + 1)))
 else
  some (.inr (.inl (IntKind.i64.wrap (s1 + 1))))
def fE (a0 : aA) (a2 : aA) (s1 : Int) : Option (Int ⊕ Int) :=
 bif (decide (s1 < (a0.length : Int))) then
  aQ (eF a0 a2 s1) 0
 else
  some (.inr s1)
def bY (a0 : aA) (a1 : Int) (a2 : aA) : Option Int :=
 aQ (fE a0 a2) a1
def fF (a0 : aA) (a1 : aA) (s1 : Int) : Option (Int ⊕ Int) :=
 bif (decide ((IntKind.i64.wrap (s1 + (a1.length : Int))) <= (a0.length : Int))) then
  (slc a0 s1 (IntKind.i64.wrap (s1 + (a1.length : Int)))).bind fun x2 =>
  bif (x2 == a1) then
   some (.inr s1)
  else
   some (.inl (IntKind.i64.wrap (s1 + 1)))
 else
  some (.inr (-1))
def bI (a0 : aA) (a1 : aA) : Option Int :=
 aQ (fF a0 a1) 0
def dT (a0 : aA) (s3 : Int) : Option (Int ⊕ Int) :=
 (gidx (decide (s3 < (a0.length : Int))) a0 s3).bind fun x4 =>
 (gidx ((decide (s3 < (a0.length : Int))) && (decide ((x4.toNat : Int) ≥ 48))) a0 s3).bind fun x5 =>
 (gidx ((decide (s3 < (a0.length : Int))) && (!(bif (decide ((x4.toNat : Int) ≥ 48)) then (decide ((x5.toNat : Int) <= 57)) else false))) a0 s3).bind fun x6 =>
 bif (bif (decide (s3 < (a0.length : Int))) then (bif (bif (decide ((x4.toNat : Int) ≥ 48)) then (decide ((x5.toNat : Int) <= 57)) else false) then true else ((x6.toNat : Int) == 46)) else false) then
  some (.inl (IntKind.i64.wrap (s3 + 1)))
 else
  some (.inr s3)
def bE (a0 : aA) (a1 : aA) : Option aA :=
 (bI a0 a1).bind fun x1 =>
 bif (decide (x1 < 0)) then
  some ([] : aA)
 else
  (aQ (dT a0) (IntKind.i64.wrap (x1 + (a1.length : Int))) : Option Int).bind fun j2 =>
  (slc a0 (IntKind.i64.wrap (x1 + (a1.length : Int))) j2).bind fun x7 =>
  some x7
def gV (a0 : aA) : Option (aA × aA × aA) :=
 (bI a0 ([87, 105, 110, 100, 111, 119, 115] : aA)).bind fun x1 =>
 bif (decide (x1 ≥ 0)) then
  (bI a0 ([77, 83, 73, 69] : aA)).bind fun x2 =>
  bif (decide (x2 ≥ 0)) then
   (bE a0 ([77, 83, 73, 69, 32] : aA)).bind fun x3 =>
   some (([77, 83, 73, 69] : aA), x3, ([87, 73, 78] : aA))
  else
   (bI a0 ([77, 111, 122, 105, 108, 108, 97] : aA)).bind fun x4 =>
   bif (decide (x4 ≥ 0)) then
    (bE a0 ([77, 111, 122, 105, 108, 108, 97, 47] : aA)).bind fun x5 =>
    some (([77, 79, 90, 73, 76, 76, 65] : aA), x5, ([87, 73, 78] : aA))
   else
    some (([79, 84, 72, 69, 82] : aA), ([] : aA), ([87, 73, 78] : aA))
 else
  (bI a0 ([77, 97, 99] : aA)).bind fun x6 =>
  bif (decide (x6 ≥ 0)) then
   (bI a0 ([77, 83, 73, 69] : aA)).bind fun x7 =>
   bif (decide (x7 ≥ 0)) then
    (bE a0 ([77, 83, 73, 69, 32] : aA)).bind fun x8 =>
    some (([77, 83, 73, 69] : aA), x8, ([77, 65, 67] : aA))
   else
    (bI a0 ([77, 111, 122, 105, 108, 108, 97] : aA)).bind fun x9 =>
    bif (decide (x9 ≥ 0)) then
     (bE a0 ([77, 111, 122, 105, 108, 108, 97, 47] : aA)).bind fun x10 =>
     some (([77, 79, 90, 73, 76, 76, 65] : aA), x10, ([77, 65, 67] : aA))
    else
     some (([79, 84, 72, 69, 82] : aA), ([] : aA), ([77, 65, 67] : aA))
  else
   (bI a0 ([88, 49, 49] : aA)).bind fun x11 =>
   bif (decide (x11 ≥ 0)) then
    (bI a0 ([77, 83, 73, 69] : aA)).bind fun x12 =>
    bif (decide (x12 ≥ 0)) then
     (bE a0 ([77, 83, 73, 69, 32] : aA)).bind fun x13 =>
     some (([77, 83, 73, 69] : aA), x13, ([85, 78, 73, 88] : aA))
    else
     (bI a0 ([77, 111, 122, 105, 108, 108, 97] : aA)).bind fun x14 =>
     bif (decide (x14 ≥ 0)) then
      (bE a0 ([77, 111, 122, 105, 108, 108, 97, 47] : aA)).bind fun x15 =>
      some (([77, 79, 90, 73, 76, 76, 65] : aA), x15, ([85, 78, 73, 88] : aA))
     else
      some (([79, 84, 72, 69, 82] : aA), ([] : aA), ([85, 78, 73, 88] : aA))
   else
    (bI a0 ([77, 83, 73, 69] : aA)).bind fun x16 =>
    bif (decide (x16 ≥ 0)) then
     (bE a0 ([77, 83, 73, 69, 32] : aA)).bind fun x17 =>
     some (([77, 83, 73, 69] : aA), x17, ([79, 84, 72, 69, 82] : aA))
    else
     (bI a0 ([77, 111, 122, 105, 108, 108, 97] : aA)).bind fun x18 =>
     bif (decide (x18 ≥ 0)) then
      (bE a0 ([77, 111, 122, 105, 108, 108, 97, 47] : aA)).bind fun x19 =>
      some (([77, 79, 90, 73, 76, 76, 65] : aA), x19, ([79, 84, 72, 69, 82] : aA))
     else
      some (([79, 84, 72, 69, 82] : aA), ([] : aA), ([79, 84, 72, 69, 82] : aA))
def bQ (a0 : aA) (a1 : aA) : Option aA :=
 (gV a0).bind fun x1 =>
 bif (a1 == ([98, 114, 111, 119, 115, 101, 114] : aA)) then
  some x1.1
 else
  bif (a1 == ([118, 101, 114, 115, 105, 111, 110] : aA)) then
   some x1.2.1
  else
   bif (a1 == ([111, 115] : aA)) then
    some x1.2.2
   else
    some ([] : aA)
def e8 (a0 : aA) (a1 : Int) (s1 : Int) : Option (Int ⊕ (aA × aA × Bool)) :=
 bif (decide (s1 < (a0.length : Int))) then
  (idx a0 s1).bind fun x2 =>
  bif ((x2.toNat : Int) == a1) then
   (slc a0 0 s1).bind fun x3 =>
   (slc a0 (IntKind.i64.wrap (s1 + 1)) (a0.length : Int)).bind fun x4 =>
   some (.inr (x3, x4, true))
  else
   some (.inl (IntKind.i64.wrap (s1 + 1)))
 else
  some (.inr (a0, ([] : aA), false))
def cO (a0 : aA) (a1 : Int) : Option (aA × aA × Bool) :=
 aQ (e8 a0 a1) 0
def fC (a1 : Int) (x : (aA × (List aA))) : Option ((aA × (List aA)) ⊕ (List aA)) :=
 match x with
 | (s1, s2) =>
  (cO s1 a1).bind fun x3 =>
  (app 16 s2 ([x3.1] : List aA)).bind fun x4 =>
  bif (!x3.2.2) then
   some (.inr x4)
  else
   some (.inl (x3.2.1, x4))
def eG (a0 : aA) (a1 : Int) : Option (List aA) :=
 aQ (fC a1) (a0, ([] : List aA))
def fG (a0 : Int) : Option Bool :=
 some (bif (a0 == 32) then true else (a0 == 9))
def iA (s2 : aA) : Option (aA ⊕ aA) :=
 (gidx (decide ((s2.length : Int) > 0)) s2 0).bind fun x3 =>
 (fU (decide ((s2.length : Int) > 0)) (fG (x3.toNat : Int))).bind fun x4 =>
 bif (bif (decide ((s2.length : Int) > 0)) then x4 else false) then
  (slc s2 1 (s2.length : Int)).bind fun x5 =>
  some (.inl x5)
 else
  some (.inr s2)
def iB (s7 : aA) : Option (aA ⊕ aA) :=
 (gidx (decide ((s7.length : Int) > 0)) s7 (IntKind.i64.wrap ((s7.length : Int) - 1))).bind fun x8 =>
 (fU (decide ((s7.length : Int) > 0)) (fG (x8.toNat : Int))).bind fun x9 =>
 bif (bif (decide ((s7.length : Int) > 0)) then x9 else false) then
  (slc s7 0 (IntKind.i64.wrap ((s7.length : Int) - 1))).bind fun x10 =>
  some (.inl x10)
 else
  some (.inr s7)
def eT (a0 : aA) : Option aA :=
 (aQ iA a0 : Option aA).bind fun j1 =>
 (aQ iB j1 : Option aA).bind fun j6 =>
 some j6
def c5 (a0 : aA) (s2 : Int) : Option (Int ⊕ Int) :=
 (gidx (decide (s2 < (a0.length : Int))) a0 s2).bind fun x3 =>
 bif (bif (decide (s2 < (a0.length : Int))) then ((x3.toNat : Int) != 34) else false) then
  (idx a0 s2).bind fun x4 =>
  bif ((x4.toNat : Int) == 92) then
   some (.inl (IntKind.i64.wrap ((IntKind.i64.wrap (s2 + 1)) + 1)))
  else
   some (.inl (IntKind.i64.wrap (s2 + 1)))
 else
  some (.inr s2)
def iS (a0 : aA) (a1 : Int) : Option Int :=
 (aQ (c5 a0) (IntKind.i64.wrap (a1 + 1)) : Option Int).bind fun j1 =>
 bif (decide (j1 ≥ (a0.length : Int))) then
  some (-1)
 else
  some (IntKind.i64.wrap (j1 + 1))
def fV (a0 : Int) : Option Bool :=
 some (bif (bif (decide (a0 < 32)) then (a0 != 9) else false) then true else (a0 == 127))
def bJ (a0 : aA) (x : (aA × Int)) : Option ((aA × Int) ⊕ (aA × Int)) :=
 match x with
 | (s3, s4) =>
  bif (decide (s4 < (IntKind.i64.wrap ((a0.length : Int) - 1)))) then
   (idx a0 s4).bind fun x5 =>
   bif ((x5.toNat : Int) == 92) then
    (idx a0 (IntKind.i64.wrap (s4 + 1))).bind fun x6 =>
    (fV (x6.toNat : Int)).bind fun x7 =>
    bif x7 then
     some (.inr (([] : aA), 11))
    else
     (slc a0 (IntKind.i64.wrap (s4 + 1)) (IntKind.i64.wrap ((IntKind.i64.wrap (s4 + 1)) + 1))).bind fun x8 =>
     (cat s3 x8).bind fun x9 =>
     some (.inl (x9, (IntKind.i64.wrap ((IntKind.i64.wrap (s4 + 1)) + 1))))
   else
    (idx a0 s4).bind fun x10 =>
    (fV (x10.toNat : Int)).bind fun x11 =>
    bif x11 then
     some (.inr (([] : aA), 11))
    else
     (slc a0 s4 (IntKind.i64.wrap (s4 + 1))).bind fun x12 =>
     (cat s3 x12).bind fun x13 =>
     some (.inl (x13, (IntKind.i64.wrap (s4 + 1))))
  else
   some (.inr (s3, 0))
def fW (a0 : aA) : Option (aA × Int) :=
 (gidx (!(a0 == ([] : aA))) a0 0).bind fun x1 =>
 (fU (!(bif (a0 == ([] : aA)) then true else ((x1.toNat : Int) != 34))) (iS a0 0)).bind fun x2 =>
 bif (bif (bif (a0 == ([] : aA)) then true else ((x1.toNat : Int) != 34)) then true else (x2 != (a0.length : Int))) then
  some (([] : aA), 11)
 else
  aQ (bJ a0) (([] : aA), 1)
def dE (x2 : (List aA)) (x : ((List aE) × Int)) : Option (((List aE) × Int) ⊕ (List aE)) :=
 match x with
 | (s3, s4) =>
  bif (decide (s4 < (x2.length : Int))) then
   (idx x2 s4).bind fun x5 =>
   (cO x5 61).bind fun x6 =>
   (eT x6.1).bind fun x7 =>
   (eT x6.2.1).bind fun x8 =>
   (fW x8).bind fun x9 =>
   bif (x9.2 == 0) then
    bif (bif x6.2.2 then (!(x7 == ([] : aA))) else false) then
     (app 32 s3 ([(aE.mk x7 x9.1)] : List aE)).bind fun x10 =>
     some (.inl (x10, (IntKind.i64.wrap (s4 + 1))))
    else
     some (.inl (s3, (IntKind.i64.wrap (s4 + 1))))
   else
    bif (bif x6.2.2 then (!(x7 == ([] : aA))) else false) then
     (app 32 s3 ([(aE.mk x7 x8)] : List aE)).bind fun x11 =>
     some (.inl (x11, (IntKind.i64.wrap (s4 + 1))))
    else
     some (.inl (s3, (IntKind.i64.wrap (s4 + 1))))
  else
   some (.inr s3)
def aX (a0 : aA) : Option (List aE) :=
 ((eG a0 59).bind fun x2 =>
 aQ (dE x2) (([] : List aE), 0) : Option (List aE)).bind fun j1 =>
 some j1
def cI (a0 : (List aE)) (a1 : aA) (s1 : Int) : Option (Int ⊕ (aA × Bool)) :=
 bif (decide (s1 < (a0.length : Int))) then
  (idx a0 s1).bind fun x2 =>
  bif (x2.Name == a1) then
   some (.inr (x2.Value, true))
  else
   some (.inl (IntKind.i64.wrap (s1 + 1)))
 else
  some (.inr (([] : aA), false))
def aU (a0 : (List aE)) (a1 : aA) : Option (aA × Bool) :=
 aQ (cI a0 a1) 0
def cU (a0 : Int) : Option Int :=
 bif (bif (decide (a0 ≥ 48)) then (decide (a0 <= 57)) else false) then
  some (IntKind.i64.wrap (IntKind.u8.wrap (a0 - 48)))
 else
  bif (bif (decide (a0 ≥ 97)) then (decide (a0 <= 102)) else false) then
   some (IntKind.i64.wrap ((IntKind.i64.wrap (IntKind.u8.wrap (a0 - 97))) + 10))
  else
   bif (bif (decide (a0 ≥ 65)) then (decide (a0 <= 70)) else false) then
    some (IntKind.i64.wrap ((IntKind.i64.wrap (IntKind.u8.wrap (a0 - 65))) + 10))
   else
    some 99
def c9 (x : (aA × aA)) : Option ((aA × aA) ⊕ aA) :=
 match x with
 | (s2, s3) =>
  bif (!(s2 == ([] : aA))) then
   (idx s2 0).bind fun x4 =>
   bif ((x4.toNat : Int) == 43) then
    (cat s3 ([32] : aA)).bind fun x5 =>
    (slc s2 1 (s2.length : Int)).bind fun x6 =>
    some (.inl (x6, x5))
   else
    (idx s2 0).bind fun x7 =>
    (gidx (bif ((x7.toNat : Int) == 37) then (decide ((s2.length : Int) > 2)) else false) s2 1).bind fun x8 =>
    (fU (bif ((x7.toNat : Int) == 37) then (decide ((s2.length : Int) > 2)) else false) (cU (x8.toNat : Int))).bind fun x9 =>
    (gidx (bif (bif ((x7.toNat : Int) == 37) then (decide ((s2.length : Int) > 2)) else false) then (decide (x9 < 16)) else false) s2 2).bind fun x10 =>
    (fU (bif (bif ((x7.toNat : Int) == 37) then (decide ((s2.length : Int) > 2)) else false) then (decide (x9 < 16)) else false) (cU (x10.toNat : Int))).bind fun x11 =>
    bif (bif (bif (bif ((x7.toNat : Int) == 37) then (decide ((s2.length : Int) > 2)) else false) then (decide (x9 < 16)) else false) then (decide (x11 < 16)) else false) then
     (idx s2 1).bind fun x12 =>
     (cU (x12.toNat : Int)).bind fun x13 =>
     (idx s2 2).bind fun x14 =>
     (cU (x14.toNat : Int)).bind fun x15 =>
     (cat s3 ([u8 (IntKind.u8.wrap (IntKind.i64.wrap ((IntKind.i64.wrap (16 * x13)) + x15)))] : List UInt8)).bind fun x16 =>
     (slc s2 3 (s2.length : Int)).bind fun x17 =>
     some (.inl (x17, x16))
    else
     (slc s2 0 1).bind fun x18 =>
     (cat s3 x18).bind fun x19 =>
     (slc s2 1 (s2.length : Int)).bind fun x20 =>
     some (.inl (x20, x19))
  else
   some (.inr s3)
def fH (a0 : aA) : Option aA :=
 (aQ c9 (a0, ([] : aA)) : Option aA).bind fun j1 =>
 some j1
def d8 (x2 : (List aA)) (x : ((List aE) × Int)) : Option (((List aE) × Int) ⊕ (List aE)) :=
 match x with
 | (s3, s4) =>
  bif (decide (s4 < (x2.length : Int))) then
   (idx x2 s4).bind fun x5 =>
   bif (!(x5 == ([] : aA))) then
    (cO x5 61).bind fun x6 =>
    (fH x6.1).bind fun x7 =>
    (fH x6.2.1).bind fun x8 =>
    (app 32 s3 ([(aE.mk x7 x8)] : List aE)).bind fun x9 =>
    some (.inl (x9, (IntKind.i64.wrap (s4 + 1))))
   else
    some (.inl (s3, (IntKind.i64.wrap (s4 + 1))))
  else
   some (.inr s3)
def bC (a0 : aA) : Option (List aE) :=
 ((eG a0 38).bind fun x2 =>
 aQ (d8 x2) (([] : List aE), 0) : Option (List aE)).bind fun j1 =>
 some j1
def d9 (a0 : aA) (x : (aA × Int)) : Option ((aA × Int) ⊕ aA) :=
 match x with
 | (s2, s3) =>
  bif (decide (s3 < (a0.length : Int))) then
   (idx a0 s3).bind fun x4 =>
   bif (bif (decide ((x4.toNat : Int) ≥ 65)) then (decide ((x4.toNat : Int) <= 90)) else false) then
    (cat s2 ([u8 (IntKind.u8.wrap ((x4.toNat : Int) + 32))] : List UInt8)).bind fun x5 =>
    some (.inl (x5, (IntKind.i64.wrap (s3 + 1))))
   else
    (cat s2 ([u8 (x4.toNat : Int)] : List UInt8)).bind fun x6 =>
    some (.inl (x6, (IntKind.i64.wrap (s3 + 1))))
  else
   some (.inr s2)
def bR (a0 : aA) : Option aA :=
 (aQ (d9 a0) (([] : aA), 0) : Option aA).bind fun j1 =>
 some j1
def cF (s3 : (List aA)) (x9 : aA) (x : (Bool × Int)) : Option ((Bool × Int) ⊕ Bool) :=
 match x with
 | (s11, s12) =>
  bif (decide (s12 < (s3.length : Int))) then
   (idx s3 s12).bind fun x13 =>
   some (.inl ((bif s11 then true else (x13 == x9)), (IntKind.i64.wrap (s12 + 1))))
  else
   some (.inr s11)
def cT (x2 : (List aA)) (x : ((List aA) × Int)) : Option (((List aA) × Int) ⊕ (List aA)) :=
 match x with
 | (s3, s4) =>
  bif (decide (s4 < (x2.length : Int))) then
   ((idx x2 s4).bind fun x6 =>
   (cO x6 59).bind fun x7 =>
   (eT x7.1).bind fun x8 =>
   (bR x8).bind fun x9 =>
   (aQ (cF s3 x9) ((x9 == ([] : aA)), 0) : Option Bool).bind fun j10 =>
   bif (!j10) then
    (app 16 s3 ([x9] : List aA)).bind fun x14 =>
    some x14
   else
    some s3 : Option (List aA)).bind fun j5 =>
   some (.inl (j5, (IntKind.i64.wrap (s4 + 1))))
  else
   some (.inr s3)
def aS (a0 : aA) : Option (List aA) :=
 ((eG a0 44).bind fun x2 =>
 aQ (cT x2) (([] : List aA), 0) : Option (List aA)).bind fun j1 =>
 some j1
def cC (a2 : aA) (x6 : (List aA)) (s7 : Int) : Option (Int ⊕ (aA × Bool)) :=
 bif (decide (s7 < (x6.length : Int))) then
  (idx x6 s7).bind fun x8 =>
  (bR a2).bind fun x9 =>
  bif (x8 == x9) then
   some (.inr (([116, 114, 117, 101] : aA), true))
  else
   some (.inl (IntKind.i64.wrap (s7 + 1)))
 else
  some (.inr (([102, 97, 108, 115, 101] : aA), true))
def jG (a2 : aA) (x15 : (List aA)) (s16 : Int) : Option (Int ⊕ (aA × Bool)) :=
 bif (decide (s16 < (x15.length : Int))) then
  (idx x15 s16).bind fun x17 =>
  (bR a2).bind fun x18 =>
  bif (x17 == x18) then
   some (.inr (([116, 114, 117, 101] : aA), true))
  else
   some (.inl (IntKind.i64.wrap (s16 + 1)))
 else
  some (.inr (([102, 97, 108, 115, 101] : aA), true))
def jH (a2 : aA) (x24 : (List aA)) (s25 : Int) : Option (Int ⊕ (aA × Bool)) :=
 bif (decide (s25 < (x24.length : Int))) then
  (idx x24 s25).bind fun x26 =>
  (bR a2).bind fun x27 =>
  bif (x26 == x27) then
   some (.inr (([116, 114, 117, 101] : aA), true))
  else
   some (.inl (IntKind.i64.wrap (s25 + 1)))
 else
  some (.inr (([102, 97, 108, 115, 101] : aA), true))
def jI (a2 : aA) (x33 : (List aA)) (s34 : Int) : Option (Int ⊕ (aA × Bool)) :=
 bif (decide (s34 < (x33.length : Int))) then
  (idx x33 s34).bind fun x35 =>
  (bR a2).bind fun x36 =>
  bif (x35 == x36) then
   some (.inr (([116, 114, 117, 101] : aA), true))
  else
   some (.inl (IntKind.i64.wrap (s34 + 1)))
 else
  some (.inr (([102, 97, 108, 115, 101] : aA), true))
def jJ (a2 : aA) (x42 : (List aA)) (s43 : Int) : Option (Int ⊕ (aA × Bool)) :=
 bif (decide (s43 < (x42.length : Int))) then
  (idx x42 s43).bind fun x44 =>
  (bR a2).bind fun x45 =>
  bif (x44 == x45) then
   some (.inr (([116, 114, 117, 101] : aA), true))
  else
   some (.inl (IntKind.i64.wrap (s43 + 1)))
 else
  some (.inr (([102, 97, 108, 115, 101] : aA), true))
def jK (a2 : aA) (x51 : (List aA)) (s52 : Int) : Option (Int ⊕ (aA × Bool)) :=
 bif (decide (s52 < (x51.length : Int))) then
  (idx x51 s52).bind fun x53 =>
  (bR a2).bind fun x54 =>
  bif (x53 == x54) then
   some (.inr (([116, 114, 117, 101] : aA), true))
  else
   some (.inl (IntKind.i64.wrap (s52 + 1)))
 else
  some (.inr (([102, 97, 108, 115, 101] : aA), true))
def jL (a2 : aA) (x60 : (List aA)) (s61 : Int) : Option (Int ⊕ (aA × Bool)) :=
 bif (decide (s61 < (x60.length : Int))) then
  (idx x60 s61).bind fun x62 =>
  (bR a2).bind fun x63 =>
  bif (x62 == x63) then
   some (.inr (([116, 114, 117, 101] : aA), true))
  else
   some (.inl (IntKind.i64.wrap (s61 + 1)))
 else
  some (.inr (([102, 97, 108, 115, 101] : aA), true))
def bS (a0 : aG) (a1 : aA) (a2 : aA) : Option (aA × Bool) :=
 bif (a1 == ([72, 84, 84, 80, 95, 72, 79, 83, 84] : aA)) then
  bif (a2 == ([] : aA)) then
   some (a0.Host, (!(a0.Host == ([] : aA))))
  else
   bif (a1 == ([72, 84, 84, 80, 95, 85, 83, 69, 82, 95, 65, 71, 69, 78, 84] : aA)) then
    (bQ a0.Agent a2).bind fun x1 =>
    some (x1, (!(x1 == ([] : aA))))
   else
    bif (a1 == ([72, 84, 84, 80, 95, 67, 79, 79, 75, 73, 69] : aA)) then
     (aX a0.Cookie).bind fun x2 =>
     (aU x2 a2).bind fun x3 =>
     some (x3.1, x3.2)
    else
     bif (a1 == ([81, 85, 69, 82, 89, 95, 83, 84, 82, 73, 78, 71] : aA)) then
      (bC a0.Query).bind fun x4 =>
      (aU x4 a2).bind fun x5 =>
      some (x5.1, x5.2)
     else
      bif (a1 == ([72, 84, 84, 80, 95, 65, 67, 67, 69, 80, 84, 95, 76, 65, 78, 71, 85, 65, 71, 69] : aA)) then
       (aS a0.Language).bind fun x6 =>
       aQ (cC a2 x6) 0
      else
       some (([] : aA), false)
 else
  bif (a1 == ([72, 84, 84, 80, 95, 82, 69, 70, 69, 82, 69, 82] : aA)) then
   bif (a2 == ([] : aA)) then
    some (a0.Referer, (!(a0.Referer == ([] : aA))))
   else
    bif (a1 == ([72, 84, 84, 80, 95, 85, 83, 69, 82, 95, 65, 71, 69, 78, 84] : aA)) then
     (bQ a0.Agent a2).bind fun x10 =>
     some (x10, (!(x10 == ([] : aA))))
    else
     bif (a1 == ([72, 84, 84, 80, 95, 67, 79, 79, 75, 73, 69] : aA)) then
      (aX a0.Cookie).bind fun x11 =>
      (aU x11 a2).bind fun x12 =>
      some (x12.1, x12.2)
     else
      bif (a1 == ([81, 85, 69, 82, 89, 95, 83, 84, 82, 73, 78, 71] : aA)) then
       (bC a0.Query).bind fun x13 =>
       (aU x13 a2).bind fun x14 =>
       some (x14.1, x14.2)
      else
       bif (a1 == ([72, 84, 84, 80, 95, 65, 67, 67, 69, 80, 84, 95, 76, 65, 78, 71, 85, 65, 71, 69] : aA)) then
        (aS a0.Language).bind fun x15 =>
        aQ (jG a2 x15) 0
       else
        some (([] : aA), false)
  else
   bif (a1 == ([72, 84, 84, 80, 95, 85, 83, 69, 82, 95, 65, 71, 69, 78, 84] : aA)) then
    bif (a2 == ([] : aA)) then
     some (a0.Agent, (!(a0.Agent == ([] : aA))))
    else
     bif (a1 == ([72, 84, 84, 80, 95, 85, 83, 69, 82, 95, 65, 71, 69, 78, 84] : aA)) then
      (bQ a0.Agent a2).bind fun x19 =>
      some (x19, (!(x19 == ([] : aA))))
     else
      bif (a1 == ([72, 84, 84, 80, 95, 67, 79, 79, 75, 73, 69] : aA)) then
       (aX a0.Cookie).bind fun x20 =>
       (aU x20 a2).bind fun x21 =>
       some (x21.1, x21.2)
      else
       bif (a1 == ([81, 85, 69, 82, 89, 95, 83, 84, 82, 73, 78, 71] : aA)) then
        (bC a0.Query).bind fun x22 =>
        (aU x22 a2).bind fun x23 =>
        some (x23.1, x23.2)
       else
        bif (a1 == ([72, 84, 84, 80, 95, 65, 67, 67, 69, 80, 84, 95, 76, 65, 78, 71, 85, 65, 71, 69] : aA)) then
         (aS a0.Language).bind fun x24 =>
         aQ (jH a2 x24) 0
        else
         some (([] : aA), false)
   else
    bif (a1 == ([72, 84, 84, 80, 95, 67, 79, 79, 75, 73, 69] : aA)) then
     bif (a2 == ([] : aA)) then
      some (a0.Cookie, (!(a0.Cookie == ([] : aA))))
     else
      bif (a1 == ([72, 84, 84, 80, 95, 85, 83, 69, 82, 95, 65, 71, 69, 78, 84] : aA)) then
       (bQ a0.Agent a2).bind fun x28 =>
       some (x28, (!(x28 == ([] : aA))))
      else
       bif (a1 == ([72, 84, 84, 80, 95, 67, 79, 79, 75, 73, 69] : aA)) then
        (aX a0.Cookie).bind fun x29 =>
        (aU x29 a2).bind fun x30 =>
        some (x30.1, x30.2)
       else
        bif (a1 == ([81, 85, 69, 82, 89, 95, 83, 84, 82, 73, 78, 71] : aA)) then
         (bC a0.Query).bind fun x31 =>
         (aU x31 a2).bind fun x32 =>
         some (x32.1, x32.2)
        else
         bif (a1 == ([72, 84, 84, 80, 95, 65, 67, 67, 69, 80, 84, 95, 76, 65, 78, 71, 85, 65, 71, 69] : aA)) then
          (aS a0.Language).bind fun x33 =>
          aQ (jI a2 x33) 0
         else
          some (([] : aA), false)
    else
     bif (a1 == ([81, 85, 69, 82, 89, 95, 83, 84, 82, 73, 78, 71] : aA)) then
      bif (a2 == ([] : aA)) then
       some (a0.Query, (!(a0.Query == ([] : aA))))
      else
       bif (a1 == ([72, 84, 84, 80, 95, 85, 83, 69, 82, 95, 65, 71, 69, 78, 84] : aA)) then
        (bQ a0.Agent a2).bind fun x37 =>
        some (x37, (!(x37 == ([] : aA))))
       else
        bif (a1 == ([72, 84, 84, 80, 95, 67, 79, 79, 75, 73, 69] : aA)) then
         (aX a0.Cookie).bind fun x38 =>
         (aU x38 a2).bind fun x39 =>
         some (x39.1, x39.2)
        else
         bif (a1 == ([81, 85, 69, 82, 89, 95, 83, 84, 82, 73, 78, 71] : aA)) then
          (bC a0.Query).bind fun x40 =>
          (aU x40 a2).bind fun x41 =>
          some (x41.1, x41.2)
         else
          bif (a1 == ([72, 84, 84, 80, 95, 65, 67, 67, 69, 80, 84, 95, 76, 65, 78, 71, 85, 65, 71, 69] : aA)) then
           (aS a0.Language).bind fun x42 =>
           aQ (jJ a2 x42) 0
          else
           some (([] : aA), false)
     else
      bif (a1 == ([72, 84, 84, 80, 95, 65, 67, 67, 69, 80, 84, 95, 76, 65, 78, 71, 85, 65, 71, 69] : aA)) then
       bif (a2 == ([] : aA)) then
        some (a0.Language, (!(a0.Language == ([] : aA))))
       else
        bif (a1 == ([72, 84, 84, 80, 95, 85, 83, 69, 82, 95, 65, 71, 69, 78, 84] : aA)) then
         (bQ a0.Agent a2).bind fun x46 =>
         some (x46, (!(x46 == ([] : aA))))
        else
         bif (a1 == ([72, 84, 84, 80, 95, 67, 79, 79, 75, 73, 69] : aA)) then
          (aX a0.Cookie).bind fun x47 =>
          (aU x47 a2).bind fun x48 =>
          some (x48.1, x48.2)
         else
          bif (a1 == ([81, 85, 69, 82, 89, 95, 83, 84, 82, 73, 78, 71] : aA)) then
           (bC a0.Query).bind fun x49 =>
           (aU x49 a2).bind fun x50 =>
           some (x50.1, x50.2)
          else
           bif (a1 == ([72, 84, 84, 80, 95, 65, 67, 67, 69, 80, 84, 95, 76, 65, 78, 71, 85, 65, 71, 69] : aA)) then
            (aS a0.Language).bind fun x51 =>
            aQ (jK a2 x51) 0
           else
            some (([] : aA), false)
      else
       bif (a2 == ([] : aA)) then
        some (([] : aA), (!(([] : aA) == ([] : aA))))
       else
        bif (a1 == ([72, 84, 84, 80, 95, 85, 83, 69, 82, 95, 65, 71, 69, 78, 84] : aA)) then
         (bQ a0.Agent a2).bind fun x55 =>
         some (x55, (!(x55 == ([] : aA))))
        else
         bif (a1 == ([72, 84, 84, 80, 95, 67, 79, 79, 75, 73, 69] : aA)) then
          (aX a0.Cookie).bind fun x56 =>
          (aU x56 a2).bind fun x57 =>
          some (x57.1, x57.2)
         else
          bif (a1 == ([81, 85, 69, 82, 89, 95, 83, 84, 82, 73, 78, 71] : aA)) then
           (bC a0.Query).bind fun x58 =>
           (aU x58 a2).bind fun x59 =>
           some (x59.1, x59.2)
          else
           bif (a1 == ([72, 84, 84, 80, 95, 65, 67, 67, 69, 80, 84, 95, 76, 65, 78, 71, 85, 65, 71, 69] : aA)) then
            (aS a0.Language).bind fun x60 =>
            aQ (jL a2 x60) 0
           else
            some (([] : aA), false)
def bK (a1 : aA) (s2 : Int) : Option (Int ⊕ Int) :=
 (aH a1 s2).bind fun x3 =>
 (fU (decide (x3 ≥ 65)) (aH a1 s2)).bind fun x4 =>
 (fU (!(bif (decide (x3 ≥ 65)) then (decide (x4 <= 90)) else false)) (aH a1 s2)).bind fun x5 =>
 bif (bif (bif (decide (x3 ≥ 65)) then (decide (x4 <= 90)) else false) then true else (x5 == 95)) then
  some (.inl (IntKind.i64.wrap (s2 + 1)))
 else
  some (.inr s2)
def cH (a0 : aG) (a1 : aA) : Option (aA × Int) :=
 (aQ (bK a1) 2 : Option Int).bind fun j1 =>
 (aH a1 0).bind fun x6 =>
 (fU (!(x6 != 36)) (aH a1 1)).bind fun x7 =>
 bif (bif (bif (x6 != 36) then true else (x7 != 40)) then true else (j1 == 2)) then
  some (([] : aA), 0)
 else
  (slc a1 2 j1).bind fun x8 =>
  (aH a1 j1).bind fun x9 =>
  bif (x9 == 123) then
   (bY a1 (IntKind.i64.wrap (j1 + 1)) ([125, 41, 124, 39, 10, 13] : aA)).bind fun x10 =>
   (fU (!(x10 == (IntKind.i64.wrap (j1 + 1)))) (aH a1 x10)).bind fun x11 =>
   bif (bif (x10 == (IntKind.i64.wrap (j1 + 1))) then true else (x11 != 125)) then
    some (([] : aA), 0)
   else
    (slc a1 (IntKind.i64.wrap (j1 + 1)) x10).bind fun x12 =>
    (aH a1 (IntKind.i64.wrap (x10 + 1))).bind fun x13 =>
    (fU (x13 == 124) (aH a1 (IntKind.i64.wrap ((IntKind.i64.wrap (x10 + 1)) + 1)))).bind fun x14 =>
    bif (bif (x13 == 124) then (x14 == 39) else false) then
     (bY a1 (IntKind.i64.wrap ((IntKind.i64.wrap (x10 + 1)) + 2)) ([39] : aA)).bind fun x15 =>
     bif (x15 == (a1.length : Int)) then
      some (([] : aA), 0)
     else
      (slc a1 (IntKind.i64.wrap ((IntKind.i64.wrap (x10 + 1)) + 2)) x15).bind fun x16 =>
      (aH a1 (IntKind.i64.wrap (x15 + 1))).bind fun x17 =>
      bif (x17 != 41) then
       some (([] : aA), 0)
      else
       (bS a0 x8 x12).bind fun x18 =>
       bif x18.2 then
        some (x18.1, (IntKind.i64.wrap ((IntKind.i64.wrap (x15 + 1)) + 1)))
       else
        some (x16, (IntKind.i64.wrap ((IntKind.i64.wrap (x15 + 1)) + 1)))
    else
     (aH a1 (IntKind.i64.wrap (x10 + 1))).bind fun x19 =>
     bif (x19 == 124) then
      (bY a1 (IntKind.i64.wrap ((IntKind.i64.wrap (x10 + 1)) + 1)) ([39, 41, 124, 10, 13] : aA)).bind fun x20 =>
      (slc a1 (IntKind.i64.wrap ((IntKind.i64.wrap (x10 + 1)) + 1)) x20).bind fun x21 =>
      (aH a1 x20).bind fun x22 =>
      bif (x22 != 41) then
       some (([] : aA), 0)
      else
       (bS a0 x8 x12).bind fun x23 =>
       bif x23.2 then
        some (x23.1, (IntKind.i64.wrap (x20 + 1)))
       else
        some (x21, (IntKind.i64.wrap (x20 + 1)))
     else
      (aH a1 (IntKind.i64.wrap (x10 + 1))).bind fun x24 =>
      bif (x24 != 41) then
       some (([] : aA), 0)
      else
       (bS a0 x8 x12).bind fun x25 =>
       bif x25.2 then
        some (x25.1, (IntKind.i64.wrap ((IntKind.i64.wrap (x10 + 1)) + 1)))
       else
        some (([] : aA), (IntKind.i64.wrap ((IntKind.i64.wrap (x10 + 1)) + 1)))
  else
   (aH a1 j1).bind fun x26 =>
   (fU (x26 == 124) (aH a1 (IntKind.i64.wrap (j1 + 1)))).bind fun x27 =>
   bif (bif (x26 == 124) then (x27 == 39) else false) then
    (bY a1 (IntKind.i64.wrap (j1 + 2)) ([39] : aA)).bind fun x28 =>
    bif (x28 == (a1.length : Int)) then
     some (([] : aA), 0)
    else
     (slc a1 (IntKind.i64.wrap (j1 + 2)) x28).bind fun x29 =>
     (aH a1 (IntKind.i64.wrap (x28 + 1))).bind fun x30 =>
     bif (x30 != 41) then
      some (([] : aA), 0)
     else
      (bS a0 x8 ([] : aA)).bind fun x31 =>
      bif x31.2 then
       some (x31.1, (IntKind.i64.wrap ((IntKind.i64.wrap (x28 + 1)) + 1)))
      else
       some (x29, (IntKind.i64.wrap ((IntKind.i64.wrap (x28 + 1)) + 1)))
   else
    (aH a1 j1).bind fun x32 =>
    bif (x32 == 124) then
     (bY a1 (IntKind.i64.wrap (j1 + 1)) ([39, 41, 124, 10, 13] : aA)).bind fun x33 =>
     (slc a1 (IntKind.i64.wrap (j1 + 1)) x33).bind fun x34 =>
     (aH a1 x33).bind fun x35 =>
     bif (x35 != 41) then
      some (([] : aA), 0)
     else
      (bS a0 x8 ([] : aA)).bind fun x36 =>
      bif x36.2 then
       some (x36.1, (IntKind.i64.wrap (x33 + 1)))
      else
       some (x34, (IntKind.i64.wrap (x33 + 1)))
    else
     (aH a1 j1).bind fun x37 =>
     bif (x37 != 41) then
      some (([] : aA), 0)
     else
      (bS a0 x8 ([] : aA)).bind fun x38 =>
      bif x38.2 then
       some (x38.1, (IntKind.i64.wrap (j1 + 1)))
      else
       some (([] : aA), (IntKind.i64.wrap (j1 + 1)))
def fI (a0 : Int) : Option Bool :=
 some (bif (decide (a0 ≥ 48)) then (decide (a0 <= 57)) else false)
def dH (a0 : aA) (s2 : Int) : Option (Int ⊕ Int) :=
 bif (decide (s2 < (a0.length : Int))) then
  (idx a0 s2).bind fun x3 =>
  bif ((x3.toNat : Int) == 39) then
   some (.inr (IntKind.i64.wrap (s2 + 1)))
  else
   some (.inl (IntKind.i64.wrap (s2 + 1)))
 else
  some (.inr 0)
def dI (a0 : aA) (s7 : Int) : Option (Int ⊕ Int) :=
 (gidx (decide (s7 < (a0.length : Int))) a0 s7).bind fun x8 =>
 (fU (decide (s7 < (a0.length : Int))) (fI (x8.toNat : Int))).bind fun x9 =>
 bif (bif (decide (s7 < (a0.length : Int))) then x9 else false) then
  some (.inl (IntKind.i64.wrap (s7 + 1)))
 else
  some (.inr s7)
def iC (a0 : aA) : Option Int :=
 (idx a0 0).bind fun x1 =>
 bif ((x1.toNat : Int) == 39) then
  aQ (dH a0) 1
 else
  (cH (aG.mk ([] : aA) ([] : aA) ([] : aA) ([] : aA) ([] : aA) ([] : aA)) a0).bind fun x4 =>
  bif (decide (x4.2 > 0)) then
   some x4.2
  else
   (fI (x1.toNat : Int)).bind fun x5 =>
   bif (bif x5 then true else ((x1.toNat : Int) == 45)) then
    (aQ (dI a0) 1 : Option Int).bind fun j6 =>
    some j6
   else
    (gidx (decide ((a0.length : Int) > 1)) a0 1).bind fun x10 =>
    bif (bif (bif (decide ((a0.length : Int) > 1)) then ((x10.toNat : Int) == 61) else false) then (bif (bif (bif ((x1.toNat : Int) == 61) then true else ((x1.toNat : Int) == 33)) then true else ((x1.toNat : Int) == 60)) then true else ((x1.toNat : Int) == 62)) else false) then
     some 2
    else
     bif (bif (bif (bif (bif (bif (bif ((x1.toNat : Int) == 60) then true else ((x1.toNat : Int) == 62)) then true else ((x1.toNat : Int) == 33)) then true else ((x1.toNat : Int) == 38)) then true else ((x1.toNat : Int) == 124)) then true else ((x1.toNat : Int) == 40)) then true else ((x1.toNat : Int) == 41)) then
      some 1
     else
      some 0
def dA (x : (aA × (List aA))) : Option ((aA × (List aA)) ⊕ ((List aA) × Bool)) :=
 match x with
 | (s1, s2) =>
  bif (!(s1 == ([] : aA))) then
   (idx s1 0).bind fun x3 =>
   (gU (x3.toNat : Int)).bind fun x4 =>
   bif x4 then
    (slc s1 1 (s1.length : Int)).bind fun x5 =>
    some (.inl (x5, s2))
   else
    (iC s1).bind fun x6 =>
    bif (x6 == 0) then
     some (.inr (s2, false))
    else
     (slc s1 0 x6).bind fun x7 =>
     (app 16 s2 ([x7] : List aA)).bind fun x8 =>
     (slc s1 x6 (s1.length : Int)).bind fun x9 =>
     some (.inl (x9, x8))
  else
   some (.inr (s2, true))
def gW (a0 : aA) : Option ((List aA) × Bool) :=
 aQ dA (a0, ([] : List aA))
def dJ (a0 : (List aA)) (a1 : aA) (x : ((List (List aA)) × Int × Int × Int)) : Option (((List (List aA)) × Int × Int × Int) ⊕ ((List (List aA)) × Int)) :=
 match x with
 | (s2, s3, s4, s5) =>
  bif (decide (s5 < (a0.length : Int))) then
   (idx a0 s5).bind fun x6 =>
   bif (x6 == ([40] : aA)) then
    bif (x6 == ([41] : aA)) then
     bif (bif ((IntKind.i64.wrap ((IntKind.i64.wrap (s4 + 1)) - 1)) == 0) then (x6 == a1) else false) then
      (slc a0 s3 s5).bind fun x7 =>
      (app 24 s2 ([x7] : List (List aA))).bind fun x8 =>
      some (.inl (x8, (IntKind.i64.wrap (s5 + 1)), (IntKind.i64.wrap ((IntKind.i64.wrap (s4 + 1)) - 1)), (IntKind.i64.wrap (s5 + 1))))
     else
      some (.inl (s2, s3, (IntKind.i64.wrap ((IntKind.i64.wrap (s4 + 1)) - 1)), (IntKind.i64.wrap (s5 + 1))))
    else
     bif (bif ((IntKind.i64.wrap (s4 + 1)) == 0) then (x6 == a1) else false) then
      (slc a0 s3 s5).bind fun x9 =>
      (app 24 s2 ([x9] : List (List aA))).bind fun x10 =>
      some (.inl (x10, (IntKind.i64.wrap (s5 + 1)), (IntKind.i64.wrap (s4 + 1)), (IntKind.i64.wrap (s5 + 1))))
     else
      some (.inl (s2, s3, (IntKind.i64.wrap (s4 + 1)), (IntKind.i64.wrap (s5 + 1))))
   else
    bif (x6 == ([41] : aA)) then
     bif (bif ((IntKind.i64.wrap (s4 - 1)) == 0) then (x6 == a1) else false) then
      (slc a0 s3 s5).bind fun x11 =>
      (app 24 s2 ([x11] : List (List aA))).bind fun x12 =>
      some (.inl (x12, (IntKind.i64.wrap (s5 + 1)), (IntKind.i64.wrap (s4 - 1)), (IntKind.i64.wrap (s5 + 1))))
     else
      some (.inl (s2, s3, (IntKind.i64.wrap (s4 - 1)), (IntKind.i64.wrap (s5 + 1))))
    else
     bif (bif (s4 == 0) then (x6 == a1) else false) then
      (slc a0 s3 s5).bind fun x13 =>
      (app 24 s2 ([x13] : List (List aA))).bind fun x14 =>
      some (.inl (x14, (IntKind.i64.wrap (s5 + 1)), s4, (IntKind.i64.wrap (s5 + 1))))
     else
      some (.inl (s2, s3, s4, (IntKind.i64.wrap (s5 + 1))))
  else
   some (.inr (s2, s3))
def iD (a0 : (List aA)) (a1 : aA) : Option (List (List aA)) :=
 (aQ (dJ a0 a1) (([] : List (List aA)), 0, 0, 0) : Option ((List (List aA)) × Int)).bind fun j1 =>
 (slc a0 j1.2 (a0.length : Int)).bind fun x15 =>
 (app 24 j1.1 ([x15] : List (List aA))).bind fun x16 =>
 some x16
def cV (a0 : (List aA)) (x : (Int × Int)) : Option ((Int × Int) ⊕ Bool) :=
 match x with
 | (s1, s2) =>
  bif (decide (s2 < (a0.length : Int))) then
   (idx a0 s2).bind fun x3 =>
   bif (x3 == ([40] : aA)) then
    bif (x3 == ([41] : aA)) then
     bif ((IntKind.i64.wrap ((IntKind.i64.wrap (s1 + 1)) - 1)) == 0) then
      some (.inr (s2 == (IntKind.i64.wrap ((a0.length : Int) - 1))))
     else
      some (.inl ((IntKind.i64.wrap ((IntKind.i64.wrap (s1 + 1)) - 1)), (IntKind.i64.wrap (s2 + 1))))
    else
     bif ((IntKind.i64.wrap (s1 + 1)) == 0) then
      some (.inr (s2 == (IntKind.i64.wrap ((a0.length : Int) - 1))))
     else
      some (.inl ((IntKind.i64.wrap (s1 + 1)), (IntKind.i64.wrap (s2 + 1))))
   else
    bif (x3 == ([41] : aA)) then
     bif ((IntKind.i64.wrap (s1 - 1)) == 0) then
      some (.inr (s2 == (IntKind.i64.wrap ((a0.length : Int) - 1))))
     else
      some (.inl ((IntKind.i64.wrap (s1 - 1)), (IntKind.i64.wrap (s2 + 1))))
    else
     bif (s1 == 0) then
      some (.inr (s2 == (IntKind.i64.wrap ((a0.length : Int) - 1))))
     else
      some (.inl (s1, (IntKind.i64.wrap (s2 + 1))))
  else
   some (.inr false)
def gG (a0 : (List aA)) : Option Bool :=
 aQ (cV a0) (0, 0)
def eI (a0 : Int) : Option Int :=
 bif (bif (decide (a0 ≥ 48)) then (decide (a0 <= 57)) else false) then
  some (IntKind.u64.wrap (IntKind.u8.wrap (a0 - 48)))
 else
  bif (bif (decide (a0 ≥ 97)) then (decide (a0 <= 102)) else false) then
   some (IntKind.u64.wrap ((IntKind.u64.wrap (IntKind.u8.wrap (a0 - 97))) + 10))
  else
   bif (bif (decide (a0 ≥ 65)) then (decide (a0 <= 70)) else false) then
    some (IntKind.u64.wrap ((IntKind.u64.wrap (IntKind.u8.wrap (a0 - 65))) + 10))
   else
    some 99
def dK (a0 : aA) (a1 : Int) (x : (Int × Int)) : Option ((Int × Int) ⊕ (Int ⊕ (Int × Int))) :=
 match x with
 | (s4, s5) =>
  bif (decide (s5 < (a0.length : Int))) then
   (idx a0 s5).bind fun x6 =>
   (eI (x6.toNat : Int)).bind fun x7 =>
   bif (decide ((IntKind.u64.wrap ((IntKind.u64.wrap (a1 * s4)) + x7)) > 1099511627776)) then
    some (.inr (.inr (0, 2)))
   else
    some (.inl ((IntKind.u64.wrap ((IntKind.u64.wrap (a1 * s4)) + x7)), (IntKind.i64.wrap (s5 + 1))))
  else
   some (.inr (.inr (s4, 0)))
def cJ (a0 : aA) (a1 : Int) (s1 : Int) : Option (Int ⊕ (Int × Int)) :=
 bif (decide (s1 < (a0.length : Int))) then
  (idx a0 s1).bind fun x2 =>
  (eI (x2.toNat : Int)).bind fun x3 =>
  bif (decide (x3 ≥ a1)) then
   some (.inr (0, 10))
  else
   some (.inl (IntKind.i64.wrap (s1 + 1)))
 else
  aQ (dK a0 a1) (0, 0)
def f8 (a0 : aA) (a1 : Int) : Option (Int × Int) :=
 bif (a0 == ([] : aA)) then
  some (0, 10)
 else
  aQ (cJ a0 a1) 0
def dZ (a0 : aA) : Option (Int × Int) :=
 (gidx (decide ((a0.length : Int) > 0)) a0 0).bind fun x1 =>
 bif (bif (decide ((a0.length : Int) > 0)) then ((x1.toNat : Int) == 45) else false) then
  (slc a0 1 (a0.length : Int)).bind fun x2 =>
  (f8 x2 10).bind fun x3 =>
  some ((IntKind.i64.wrap (0 - (IntKind.i64.wrap x3.1))), x3.2)
 else
  (f8 a0 10).bind fun x4 =>
  some ((IntKind.i64.wrap x4.1), x4.2)
def cR (a0 : aA) : Option aB :=
 (idx a0 0).bind fun x1 =>
 bif ((x1.toNat : Int) == 39) then
  (slc a0 1 (IntKind.i64.wrap ((a0.length : Int) - 1))).bind fun x2 =>
  some (aB.mk 2 0 x2 ([] : aA) ([] : List aB))
 else
  (cH (aG.mk ([] : aA) ([] : aA) ([] : aA) ([] : aA) ([] : aA) ([] : aA)) a0).bind fun x3 =>
  bif (decide (x3.2 > 0)) then
   some (aB.mk 3 0 a0 ([] : aA) ([] : List aB))
  else
   (dZ a0).bind fun x4 =>
   bif (x4.2 == 0) then
    some (aB.mk 1 x4.1 ([] : aA) ([] : aA) ([] : List aB))
   else
    some (aB.mk 0 0 ([] : aA) ([] : aA) ([] : List aB))
def d3 (a0 : aA) : Option Bool :=
 some (bif (bif (bif (bif (bif (a0 == ([61, 61] : aA)) then true else (a0 == ([33, 61] : aA))) then true else (a0 == ([60, 61] : aA))) then true else (a0 == ([62, 61] : aA))) then true else (a0 == ([60] : aA))) then true else (a0 == ([62] : aA)))
def fX (aNb : (List aA) -> Option aB) (aNp : (List aA) -> Option aB) (a0 : (List aA)) : Option aB :=
 bif ((a0.length : Int) == 0) then
  some (aB.mk 0 0 ([] : aA) ([] : aA) ([] : List aB))
 else
  (idx a0 0).bind fun x1 =>
  bif (x1 == ([33] : aA)) then
   (slc a0 1 (a0.length : Int)).bind fun x2 =>
   (aNp x2).bind fun x3 =>
   bif (x3.Kind == 0) then
    some x3
   else
    some (aB.mk 4 0 ([] : aA) ([] : aA) ([x3] : List aB))
  else
   (idx a0 0).bind fun x4 =>
   bif (x4 == ([40] : aA)) then
    (fU (decide ((a0.length : Int) > 2)) (gG a0)).bind fun x5 =>
    bif (bif (decide ((a0.length : Int) > 2)) then x5 else false) then
     (slc a0 1 (IntKind.i64.wrap ((a0.length : Int) - 1))).bind fun x6 =>
     (aNb x6).bind fun x7 =>
     some x7
    else
     some (aB.mk 0 0 ([] : aA) ([] : aA) ([] : List aB))
   else
    bif ((a0.length : Int) == 1) then
     (idx a0 0).bind fun x8 =>
     (cR x8).bind fun x9 =>
     some x9
    else
     (gidx (!((a0.length : Int) != 3)) a0 1).bind fun x10 =>
     (fU (!((a0.length : Int) != 3)) (d3 x10)).bind fun x11 =>
     bif (bif ((a0.length : Int) != 3) then true else (!x11)) then
      some (aB.mk 0 0 ([] : aA) ([] : aA) ([] : List aB))
     else
      (idx a0 0).bind fun x12 =>
      (cR x12).bind fun x13 =>
      (idx a0 2).bind fun x14 =>
      (cR x14).bind fun x15 =>
      bif (bif (x13.Kind == 0) then true else (x15.Kind == 0)) then
       some (aB.mk 0 0 ([] : aA) ([] : aA) ([] : List aB))
      else
       (idx a0 1).bind fun x16 =>
       some (aB.mk 7 0 ([] : aA) x16 ([x13, x15] : List aB))
def dL (aNb : (List aA) -> Option aB) : Nat -> (List aA) -> Option aB
 | 0 => fun _ => none
 | n + 1 => fX aNb (dL aNb n)
def oN (aNb : (List aA) -> Option aB) (a0 : (List aA)) : Option aB := dL aNb 1000000 a0
def dB (aNb : (List aA) -> Option aB) (aNi : (List aA) -> aA -> Int -> Option aB) (a1 : aA) (x1 : (List (List aA))) (x : (Int × aB)) : Option ((Int × aB) ⊕ aB) :=
 match x with
 | (s2, s3) =>
  bif (decide (s2 < (x1.length : Int))) then
   (idx x1 s2).bind fun x4 =>
   bif (a1 == ([124] : aA)) then
    (aNi x4 ([38] : aA) 5).bind fun x5 =>
    bif (x5.Kind == 0) then
     some (.inr x5)
    else
     (app 72 s3.Kids ([x5] : List aB)).bind fun x6 =>
     some (.inl ((IntKind.i64.wrap (s2 + 1)), (aB.mk s3.Kind s3.N s3.Text s3.Sign x6)))
   else
    (oN aNb x4).bind fun x7 =>
    bif (x7.Kind == 0) then
     some (.inr x7)
    else
     (app 72 s3.Kids ([x7] : List aB)).bind fun x8 =>
     some (.inl ((IntKind.i64.wrap (s2 + 1)), (aB.mk s3.Kind s3.N s3.Text s3.Sign x8)))
  else
   bif ((x1.length : Int) == 1) then
    (idx s3.Kids 0).bind fun x9 =>
    some (.inr x9)
   else
    some (.inr s3)
def dM (aNb : (List aA) -> Option aB) (aNi : (List aA) -> aA -> Int -> Option aB) (a0 : (List aA)) (a1 : aA) (a2 : Int) : Option aB :=
 (iD a0 a1).bind fun x1 =>
 aQ (dB aNb aNi a1 x1) (0, (aB.mk a2 0 ([] : aA) ([] : aA) ([] : List aB)))
def dN (aNb : (List aA) -> Option aB) : Nat -> (List aA) -> aA -> Int -> Option aB
 | 0 => fun _ _ _ => none
 | n + 1 => dM aNb (dN aNb n)
def oO (aNb : (List aA) -> Option aB) (a0 : (List aA)) (a1 : aA) (a2 : Int) : Option aB := dN aNb 1000000 a0 a1 a2
def fY (aNb : (List aA) -> Option aB) (a0 : (List aA)) : Option aB :=
 (oO aNb a0 ([124] : aA) 6).bind fun x1 =>
 some x1
def a8 : Nat -> (List aA) -> Option aB
 | 0 => fun _ => none
 | n + 1 => fY (a8 n)
def lR (a0 : (List aA)) : Option aB := a8 1000000 a0
def dO (a1 : Int) (x5 : aB) (x : ((List aB) × Int)) : Option (((List aB) × Int) ⊕ (List aB)) :=
 match x with
 | (s6, s7) =>
  bif (decide (s7 < (x5.Kids.length : Int))) then
   (idx x5.Kids s7).bind fun x8 =>
   bif (decide ((s6.length : Int) <= a1)) then
    (app 72 s6 ([x8] : List aB)).bind fun x9 =>
    some (.inl (x9, (IntKind.i64.wrap (s7 + 1))))
   else
    some (.inl (s6, (IntKind.i64.wrap (s7 + 1))))
  else
   some (.inr s6)
def bL (a1 : Int) (x : ((List aB) × Int)) : Option (((List aB) × Int) ⊕ (List aB)) :=
 match x with
 | (s2, s3) =>
  bif (bif (decide (s3 < (s2.length : Int))) then (decide ((s2.length : Int) <= a1)) else false) then
   ((idx s2 s3).bind fun x5 =>
   aQ (dO a1 x5) (s2, 0) : Option (List aB)).bind fun j4 =>
   some (.inl (j4, (IntKind.i64.wrap (s3 + 1))))
  else
   some (.inr s2)
def d6 (a0 : aB) (a1 : Int) : Option Int :=
 (aQ (bL a1) (([a0] : List aB), 0) : Option (List aB)).bind fun j1 =>
 some (j1.length : Int)
def bO (a0 : aB) : Option Bool :=
 some (bif (a0.Kind == 5) then true else (a0.Kind == 6))
def dP (aNj : aB -> Option Int) (a0 : aB) (x : (Int × Int)) : Option ((Int × Int) ⊕ Int) :=
 match x with
 | (s2, s3) =>
  bif (decide (s3 < (a0.Kids.length : Int))) then
   (idx a0.Kids s3).bind fun x4 =>
   (aNj x4).bind fun x5 =>
   (bO x4).bind fun x6 =>
   bif x6 then
    bif (a0.Kind == 4) then
     bif (decide ((IntKind.i64.wrap ((IntKind.i64.wrap (x5 + 1)) + 1)) > s2)) then
      some (.inl ((IntKind.i64.wrap ((IntKind.i64.wrap (x5 + 1)) + 1)), (IntKind.i64.wrap (s3 + 1))))
     else
      some (.inl (s2, (IntKind.i64.wrap (s3 + 1))))
    else
     bif (decide ((IntKind.i64.wrap (x5 + 1)) > s2)) then
      some (.inl ((IntKind.i64.wrap (x5 + 1)), (IntKind.i64.wrap (s3 + 1))))
     else
      some (.inl (s2, (IntKind.i64.wrap (s3 + 1))))
   else
    bif (a0.Kind == 4) then
     bif (decide ((IntKind.i64.wrap (x5 + 1)) > s2)) then
      some (.inl ((IntKind.i64.wrap (x5 + 1)), (IntKind.i64.wrap (s3 + 1))))
     else
      some (.inl (s2, (IntKind.i64.wrap (s3 + 1))))
    else
     bif (decide (x5 > s2)) then
      some (.inl (x5, (IntKind.i64.wrap (s3 + 1))))
     else
      some (.inl (s2, (IntKind.i64.wrap (s3 + 1))))
  else
   some (.inr s2)
def gH (aNj : aB -> Option Int) (a0 : aB) : Option Int :=
 (aQ (dP aNj a0) (0, 0) : Option Int).bind fun j1 =>
 some j1
def c6 : Nat -> aB -> Option Int
 | 0 => fun _ => none
 | n + 1 => gH (c6 n)
def jU (a0 : aB) : Option Int := c6 1000000 a0
def gX (a0 : aA) : Option (aB × Int) :=
 bif (decide ((a0.length : Int) > 400)) then
  some ((aB.mk 0 0 ([] : aA) ([] : aA) ([] : List aB)), 2)
 else
  (gW a0).bind fun x1 =>
  (lR x1.1).bind fun x2 =>
  bif (bif (!x1.2) then true else (x2.Kind == 0)) then
   some ((aB.mk 0 0 ([] : aA) ([] : aA) ([] : List aB)), 50)
  else
   (d6 x2 60).bind fun x3 =>
   bif (decide (x3 > 60)) then
    some ((aB.mk 0 0 ([] : aA) ([] : aA) ([] : List aB)), 4)
   else
    (jU x2).bind fun x4 =>
    bif (decide (x4 > 16)) then
     some ((aB.mk 0 0 ([] : aA) ([] : aA) ([] : List aB)), 5)
    else
     some (x2, 0)
def iY (a1 : Int) (s2 : aA) : Option (aA ⊕ aA) :=
 (gidx (decide ((s2.length : Int) > 0)) s2 0).bind fun x3 =>
 bif (bif (decide ((s2.length : Int) > 0)) then ((x3.toNat : Int) == a1) else false) then
  (slc s2 1 (s2.length : Int)).bind fun x4 =>
  some (.inl x4)
 else
  some (.inr s2)
def iQ (a0 : aA) (a1 : Int) : Option aA :=
 (aQ (iY a1) a0 : Option aA).bind fun j1 =>
 some j1
def iZ (a0 : aA) (x : (Int × (List Bool))) : Option ((Int × (List Bool)) ⊕ ((List Bool) × Bool)) :=
 match x with
 | (s1, s2) =>
  bif (decide (s1 < (a0.length : Int))) then
   (idx a0 s1).bind fun x3 =>
   bif (decide ((x3.toNat : Int) ≥ 128)) then
    chk (s2.length = 256) <|
    chk (s2.length = 256 /\ s2.length = 256) <|
    chk (s2.length = 256) (some (.inr (s2, false)))
   else
    chk (0 <= (x3.toNat : Int) /\ (x3.toNat : Int) < 256) <|
    (seti s2 (x3.toNat : Int) true).bind fun x7 =>
    some (.inl ((IntKind.i64.wrap (s1 + 1)), x7))
  else
   chk (s2.length = 256) <|
   chk (s2.length = 256 /\ s2.length = 256) <|
   chk (s2.length = 256) (some (.inr (s2, true)))
def bF (a0 : aA) : Option ((List Bool) × Bool) :=
 aQ (iZ a0) (0, (List.replicate 256 false))
def bW (a0 : (List Bool)) (a1 : Int) : Option Bool :=
 chk (0 <= a1 /\ a1 < 256) <|
 (idx a0 a1).bind fun x2 =>
 some x2
def eO (a1 : (List Bool)) (s2 : aA) : Option (aA ⊕ aA) :=
 bif (decide ((s2.length : Int) > 0)) then
  (idx s2 0).bind fun x3 =>
  (bW a1 (x3.toNat : Int)).bind fun x4 =>
  bif (!x4) then
   some (.inr s2)
  else
   (slc s2 1 (s2.length : Int)).bind fun x5 =>
   some (.inl x5)
 else
  some (.inr s2)
def cS (a0 : aA) (a1 : (List Bool)) : Option aA :=
 (aQ (eO a1) a0 : Option aA).bind fun j1 =>
 some j1
def eJ (a0 : aA) : Option (Int × Int) :=
 bif (decide ((a0.length : Int) < 1)) then
  some (65533, 0)
 else
  (idx a0 0).bind fun x1 =>
  none
def cP (a0 : aA) : Option (Int × Int) :=
 (gidx (!(a0 == ([] : aA))) a0 0).bind fun x1 =>
 bif (bif (!(a0 == ([] : aA))) then (decide ((x1.toNat : Int) < 128)) else false) then
  (idx a0 0).bind fun x2 =>
  some ((IntKind.i32.wrap (x2.toNat : Int)), 1)
 else
  (eJ a0).bind fun x3 =>
  some (x3.1, x3.2)
def j3 (a0 : aA) (a1 : Int) : Option Int :=
 (iX a0 a1).bind fun x1 =>
 some x1
def fJ (a0 : aA) (a1 : Int) : Option Int :=
 (j3 a0 a1).bind fun x1 =>
 some x1
def jM (a0 : Int) : Option Bool :=
 bif (bif (decide (0 <= a0)) then (decide (a0 < 55296)) else false) then
  some true
 else
  bif (bif (decide (57343 < a0)) then (decide (a0 <= 1114111)) else false) then
   some true
  else
   some false
def k8 (a0 : aA) (s2 : Nat) : Option (Nat ⊕ Int) :=
 bif (decide (s2 < a0.length)) then
  bif (((zQ a0 s2 : Nat) : Int) == 65533) then
   some (.inr ((s2 : Nat) : Int))
  else
   some (.inl (s2 + wT a0 s2))
 else
  some (.inr (-1))
def k9 (a0 : aA) (a1 : Int) (s4 : Int) (x9 : Int) (s10 : Int) : Option (Int ⊕ (Int ⊕ Int)) :=
 bif (decide (s10 < ((encB a1).length : Int))) then
  (idx a0 (IntKind.i64.wrap ((IntKind.i64.wrap (s4 + (IntKind.i64.wrap (x9 + 1)))) - s10))).bind fun x11 =>
  (idx (encB a1) (IntKind.i64.wrap ((IntKind.i64.wrap (((encB a1).length : Int) - 1)) - s10))).bind fun x12 =>
  bif ((x11.toNat : Int) != (x12.toNat : Int)) then
   none
  else
   some (.inl (IntKind.i64.wrap (s10 + 1)))
 else
  some (.inr (.inr (IntKind.i64.wrap ((IntKind.i64.wrap (s4 + (IntKind.i64.wrap (x9 + 1)))) - (IntKind.i64.wrap (((encB a1).length : Int) - 1))))))
def lA (a0 : aA) (a1 : Int) (s4 : Int) (s13 : Int) : Option (Int ⊕ (Int ⊕ Int)) :=
 bif (decide (s13 < ((encB a1).length : Int))) then
  (idx a0 (IntKind.i64.wrap (s4 - s13))).bind fun x14 =>
  (idx (encB a1) (IntKind.i64.wrap ((IntKind.i64.wrap (((encB a1).length : Int) - 1)) - s13))).bind fun x15 =>
  bif ((x14.toNat : Int) != (x15.toNat : Int)) then
   none
  else
   some (.inl (IntKind.i64.wrap (s13 + 1)))
 else
  some (.inr (.inr (IntKind.i64.wrap (s4 - (IntKind.i64.wrap (((encB a1).length : Int) - 1))))))
def lB (a0 : aA) (a1 : Int) (s4 : Int) : Option (Int ⊕ Int) :=
 bif (decide (s4 < (a0.length : Int))) then
  (idx a0 s4).bind fun x5 =>
  (idx (encB a1) (IntKind.i64.wrap (((encB a1).length : Int) - 1))).bind fun x6 =>
  bif ((x5.toNat : Int) != (x6.toNat : Int)) then
   (slc a0 (IntKind.i64.wrap (s4 + 1)) (a0.length : Int)).bind fun x7 =>
   (idx (encB a1) (IntKind.i64.wrap (((encB a1).length : Int) - 1))).bind fun x8 =>
   (fJ x7 (x8.toNat : Int)).bind fun x9 =>
   bif (decide (x9 < 0)) then
    some (.inr (-1))
   else
    aQ (k9 a0 a1 s4 x9) 1
  else
   aQ (lA a0 a1 s4) 1
 else
  some (.inr (-1))
def mZ (a0 : aA) (a1 : Int) : Option Int :=
 bif (bif (decide (0 <= a1)) then (decide (a1 < 128)) else false) then
  (fJ a0 (IntKind.u8.wrap a1)).bind fun x1 =>
  some x1
 else
  bif (a1 == 65533) then
   aQ (k8 a0) 0
  else
   (jM a1).bind fun x3 =>
   bif (!x3) then
    some (-1)
   else
    aQ (lB a0 a1) (IntKind.i64.wrap (((encB a1).length : Int) - 1))
def gI (a0 : aA) (a1 : Int) : Option Bool :=
 (mZ a0 a1).bind fun x1 =>
 some (decide (x1 ≥ 0))
def hP (a1 : aA) (s2 : aA) : Option (aA ⊕ aA) :=
 bif (decide ((s2.length : Int) > 0)) then
  (cP s2).bind fun x3 =>
  (gI a1 x3.1).bind fun x4 =>
  bif (!x4) then
   some (.inr s2)
  else
   (slc s2 x3.2 (s2.length : Int)).bind fun x5 =>
   some (.inl x5)
 else
  some (.inr s2)
def gM (a0 : aA) (a1 : aA) : Option aA :=
 (aQ (hP a1) a0 : Option aA).bind fun j1 =>
 some j1
def cN (a0 : aA) (a1 : aA) : Option aA :=
 bif (bif (a0 == ([] : aA)) then true else (a1 == ([] : aA))) then
  some a0
 else
  (gidx ((a1.length : Int) == 1) a1 0).bind fun x1 =>
  bif (bif ((a1.length : Int) == 1) then (decide ((x1.toNat : Int) < 128)) else false) then
   (idx a1 0).bind fun x2 =>
   (iQ a0 (x2.toNat : Int)).bind fun x3 =>
   some x3
  else
   (bF a1).bind fun x4 =>
   chk (x4.1.length = 256) <|
   chk (0 < x4.1.length) <|
   bif x4.2 then
    (cS a0 x4.1).bind fun x6 =>
    some x6
   else
    (gM a0 a1).bind fun x7 =>
    some x7
def eU (o0 : aC) : Option (Unit × aC) :=
 (cN o0.s ([32, 9, 10, 13] : aA)).bind fun x1 =>
 some ((), (aC.mk x1 o0.bad))
def bX (a0 : aA) (a1 : aA) : Option Bool :=
 (gslc (decide ((a0.length : Int) ≥ (a1.length : Int))) a0 0 (a1.length : Int)).bind fun x1 =>
 some (bif (decide ((a0.length : Int) ≥ (a1.length : Int))) then (x1 == a1) else false)
def iE (a0 : aA) (a1 : aA) : Option (aA × Bool) :=
 (bX a0 a1).bind fun x1 =>
 bif (!x1) then
  some (a0, false)
 else
  (slc a0 (a1.length : Int) (a0.length : Int)).bind fun x2 =>
  some (x2, true)
def dU (a0 : aA) (a1 : aA) : Option (aA × Bool) :=
 (iE a0 a1).bind fun x1 =>
 some (x1.1, x1.2)
def a7 (o0 : aC) (a1 : aA) : Option (Bool × aC) :=
 (eU o0).bind fun x1 =>
 (dU x1.2.s a1).bind fun x2 =>
 some (x2.2, (aC.mk x2.1 x1.2.bad))
def hR (o0 : aC) : Option (aB × aC) :=
 some ((aB.mk 0 0 ([] : aA) ([] : aA) ([] : List aB)), (aC.mk ([] : aA) true))
def j7 (a0 : aA) (a1 : aA) : Option (aA × aA × Bool) :=
 (gQ a0 a1).bind fun x1 =>
 bif (decide (x1 ≥ 0)) then
  (slc a0 0 x1).bind fun x2 =>
  (slc a0 (IntKind.i64.wrap (x1 + (a1.length : Int))) (a0.length : Int)).bind fun x3 =>
  some (x2, x3, true)
 else
  some (a0, ([] : aA), false)
def dQ (a0 : aA) (a1 : aA) : Option (aA × aA × Bool) :=
 (j7 a0 a1).bind fun x1 =>
 some (x1.1, x1.2.1, x1.2.2)
def m0 (a0 : aA) (a1i : Int -> Option Bool) (s2 : Int) : Option (Int ⊕ Int) :=
 (gidx (decide (s2 < (a0.length : Int))) a0 s2).bind fun x3 =>
 (fU (decide (s2 < (a0.length : Int))) (a1i (x3.toNat : Int))).bind fun x4 =>
 bif (bif (decide (s2 < (a0.length : Int))) then x4 else false) then
  some (.inl (IntKind.i64.wrap (s2 + 1)))
 else
  some (.inr s2)
def kK (a0 : aA) (a1i : Int -> Option Bool) : Option Int :=
 (aQ (m0 a0 a1i) 0 : Option Int).bind fun j1 =>
 some j1
def lS (a0 : Int) : Option Bool :=
 some (bif (bif (decide (a0 ≥ 65)) then (decide (a0 <= 90)) else false) then true else (a0 == 95))
def fA : Option (aA × Int) :=
 some (([] : aA), 0)
def aO (a0 : aA) (a1 : aA) : Option Bool :=
 (bX a0 a1).bind fun x1 =>
 some x1
def qU (a0 : aA) : Option aA :=
 some a0
def f9 (a0 : Int) (c0 : aA) : Option Bool :=
 (fJ c0 a0).bind fun x1 =>
 some (decide (x1 < 0))
def vI (a0 : aA) : Option aA :=
 some a0
def lC (a0 : aA) (a1k0 : aG) : Option (aA × aG) :=
 some (a0, a1k0)
def lD (a0 : aA) (a1k0 : aG) : Option (aA × aG) :=
 some (a0, a1k0)
def lE (a0 : aA) (a1k0 : aG) : Option (aA × aG) :=
 some (a0, a1k0)
def lF (a0 : aA) (a1k0 : aG) : Option (aA × aG) :=
 some (a0, a1k0)
def tA (a0 : aG) : Option (aA × aA × (aA × aG) × (aA × aG) × (aA × aG) × (aA × aG)) :=
 (vI a0.Host).bind fun x1 =>
 (vI a0.Referer).bind fun x2 =>
 (lC a0.Agent a0).bind fun x3 =>
 (lD a0.Cookie a0).bind fun x4 =>
 (lE a0.Query a0).bind fun x5 =>
 (lF a0.Language a0).bind fun x6 =>
 some (x1, x2, (x3.1, x3.2), (x4.1, x4.2), (x5.1, x5.2), (x6.1, x6.2))
def sE (a0 : aA) : Option (aA × Bool) :=
 some (a0, (!(a0 == ([] : aA))))
def m5 (a0 : aA) (c0 : aA) : Option (aA × Bool) :=
 bif (!(a0 == ([] : aA))) then
  some (([] : aA), false)
 else
  (sE c0).bind fun x1 =>
  some (x1.1, x1.2)
def iF (a0 : aA) (c0 : aA) (c1i : aA -> Option (aA × Bool)) : Option (aA × Bool) :=
 bif (a0 == ([] : aA)) then
  (sE c0).bind fun x1 =>
  some (x1.1, x1.2)
 else
  (c1i a0).bind fun x2 =>
  some (x2.1, x2.2)
def bT (a0 : aA) (a1 : aA) : Option Bool :=
 (strings_Index a0 a1).bind fun x1 =>
 some (decide (x1 ≥ 0))
def iN (a0 : aA) (x : (aA × aA × Int)) : Option ((aA × aA × Int) ⊕ (aA × aA)) :=
 match x with
 | (s2, s3, s4) =>
  bif (decide (s4 < (([(bV.mk ([77, 83, 73, 69] : aA) ([77, 83, 73, 69] : aA) ([77, 83, 73, 69, 32] : aA)), (bV.mk ([77, 111, 122, 105, 108, 108, 97] : aA) ([77, 79, 90, 73, 76, 76, 65] : aA) ([77, 111, 122, 105, 108, 108, 97, 47] : aA))] : List bV).length : Int))) then
   (idx ([(bV.mk ([77, 83, 73, 69] : aA) ([77, 83, 73, 69] : aA) ([77, 83, 73, 69, 32] : aA)), (bV.mk ([77, 111, 122, 105, 108, 108, 97] : aA) ([77, 79, 90, 73, 76, 76, 65] : aA) ([77, 111, 122, 105, 108, 108, 97, 47] : aA))] : List bV) s4).bind fun x5 =>
   (bT a0 x5.e0).bind fun x6 =>
   bif (!x6) then
    some (.inl (s2, s3, (IntKind.i64.wrap (s4 + 1))))
   else
    (dQ a0 x5.e2).bind fun x7 =>
    (cN x7.2.1 ([48, 49, 50, 51, 52, 53, 54, 55, 56, 57, 46] : aA)).bind fun x8 =>
    (slc x7.2.1 0 (IntKind.i64.wrap ((x7.2.1.length : Int) - (x8.length : Int)))).bind fun x9 =>
    some (.inr (x5.e1, x9))
  else
   some (.inr (s2, s3))
def gP (a0 : aA) (x : (aA × Int)) : Option ((aA × Int) ⊕ aA) :=
 match x with
 | (s11, s12) =>
  bif (decide (s12 < (([(bB.mk ([87, 105, 110, 100, 111, 119, 115] : aA) ([87, 73, 78] : aA)), (bB.mk ([77, 97, 99] : aA) ([77, 65, 67] : aA)), (bB.mk ([88, 49, 49] : aA) ([85, 78, 73, 88] : aA))] : List bB).length : Int))) then
   (idx ([(bB.mk ([87, 105, 110, 100, 111, 119, 115] : aA) ([87, 73, 78] : aA)), (bB.mk ([77, 97, 99] : aA) ([77, 65, 67] : aA)), (bB.mk ([88, 49, 49] : aA) ([85, 78, 73, 88] : aA))] : List bB) s12).bind fun x13 =>
   (bT a0 x13.e0).bind fun x14 =>
   bif x14 then
    some (.inr x13.e1)
   else
    some (.inl (s11, (IntKind.i64.wrap (s12 + 1))))
  else
   some (.inr s11)
def oP (a0 : aA) : Option (aA × aA × aA) :=
 (aQ (iN a0) (([79, 84, 72, 69, 82] : aA), ([] : aA), 0) : Option (aA × aA)).bind fun j1 =>
 (aQ (gP a0) (([79, 84, 72, 69, 82] : aA), 0) : Option aA).bind fun j10 =>
 some (j1.1, j1.2, j10)
def nF (a0 : aA) (c0 : aG) : Option (aA × Bool) :=
 (oP c0.Agent).bind fun x1 =>
 (sE (mget ([] : aA) (mins (mins (mins ([] : List (aA × aA)) ([98, 114, 111, 119, 115, 101, 114] : aA) x1.1) ([118, 101, 114, 115, 105, 111, 110] : aA) x1.2.1) ([111, 115] : aA) x1.2.2) a0)).bind fun x2 =>
 some (x2.1, x2.2)
def iT (a1 : Int) (s2 : aA) : Option (aA ⊕ aA) :=
 (gidx (decide ((s2.length : Int) > 0)) s2 (IntKind.i64.wrap ((s2.length : Int) - 1))).bind fun x3 =>
 bif (bif (decide ((s2.length : Int) > 0)) then ((x3.toNat : Int) == a1) else false) then
  (slc s2 0 (IntKind.i64.wrap ((s2.length : Int) - 1))).bind fun x4 =>
  some (.inl x4)
 else
  some (.inr s2)
def j8 (a0 : aA) (a1 : Int) : Option aA :=
 (aQ (iT a1) a0 : Option aA).bind fun j1 =>
 some j1
def fR (a1 : (List Bool)) (s2 : aA) : Option (aA ⊕ aA) :=
 bif (decide ((s2.length : Int) > 0)) then
  (idx s2 (IntKind.i64.wrap ((s2.length : Int) - 1))).bind fun x3 =>
  (bW a1 (x3.toNat : Int)).bind fun x4 =>
  bif (!x4) then
   some (.inr s2)
  else
   (slc s2 0 (IntKind.i64.wrap ((s2.length : Int) - 1))).bind fun x5 =>
   some (.inl x5)
 else
  some (.inr s2)
def fD (a0 : aA) (a1 : (List Bool)) : Option aA :=
 (aQ (fR a1) a0 : Option aA).bind fun j1 =>
 some j1
def jN (a0 : Int) : Option Bool :=
 some ((bits .and .u8 a0 192) != 128)
def dV (a0 : aA) (s3 : Int) : Option (Int ⊕ Int) :=
 bif (decide (s3 ≥ (imax (IntKind.i64.wrap ((a0.length : Int) - 4)) 0))) then
  (idx a0 s3).bind fun x4 =>
  (jN (x4.toNat : Int)).bind fun x5 =>
  bif x5 then
   some (.inr s3)
  else
   some (.inl (IntKind.i64.wrap (s3 - 1)))
 else
  some (.inr s3)
def eL (a0 : aA) : Option (Int × Int) :=
 bif ((a0.length : Int) == 0) then
  some (65533, 0)
 else
  (idx a0 (IntKind.i64.wrap ((a0.length : Int) - 1))).bind fun x1 =>
  bif (decide ((IntKind.i32.wrap (x1.toNat : Int)) < 128)) then
   some ((IntKind.i32.wrap (x1.toNat : Int)), 1)
  else
   (aQ (dV a0) (IntKind.i64.wrap ((IntKind.i64.wrap ((a0.length : Int) - 1)) - 1)) : Option Int).bind fun j2 =>
   bif (decide (j2 < 0)) then
    (slc a0 0 (a0.length : Int)).bind fun x6 =>
    (cP x6).bind fun x7 =>
    bif ((IntKind.i64.wrap (0 + x7.2)) != (a0.length : Int)) then
     some (65533, 1)
    else
     some (x7.1, x7.2)
   else
    (slc a0 j2 (a0.length : Int)).bind fun x8 =>
    (cP x8).bind fun x9 =>
    bif ((IntKind.i64.wrap (j2 + x9.2)) != (a0.length : Int)) then
     some (65533, 1)
    else
     some (x9.1, x9.2)
def gY (a1 : aA) (s2 : aA) : Option (aA ⊕ aA) :=
 bif (decide ((s2.length : Int) > 0)) then
  (idx s2 (IntKind.i64.wrap ((s2.length : Int) - 1))).bind fun x3 =>
  bif (decide ((IntKind.i32.wrap (x3.toNat : Int)) ≥ 128)) then
   (eL s2).bind fun x4 =>
   (gI a1 x4.1).bind fun x5 =>
   bif (!x5) then
    some (.inr s2)
   else
    (slc s2 0 (IntKind.i64.wrap ((s2.length : Int) - x4.2))).bind fun x6 =>
    some (.inl x6)
  else
   (gI a1 (IntKind.i32.wrap (x3.toNat : Int))).bind fun x7 =>
   bif (!x7) then
    some (.inr s2)
   else
    (slc s2 0 (IntKind.i64.wrap ((s2.length : Int) - 1))).bind fun x8 =>
    some (.inl x8)
 else
  some (.inr s2)
def iU (a0 : aA) (a1 : aA) : Option aA :=
 (aQ (gY a1) a0 : Option aA).bind fun j1 =>
 some j1
def pM (a0 : aA) (a1 : aA) : Option aA :=
 bif (bif (a0 == ([] : aA)) then true else (a1 == ([] : aA))) then
  some a0
 else
  (gidx ((a1.length : Int) == 1) a1 0).bind fun x1 =>
  bif (bif ((a1.length : Int) == 1) then (decide ((x1.toNat : Int) < 128)) else false) then
   (idx a1 0).bind fun x2 =>
   (j8 a0 (x2.toNat : Int)).bind fun x3 =>
   (idx a1 0).bind fun x4 =>
   (iQ x3 (x4.toNat : Int)).bind fun x5 =>
   some x5
  else
   (bF a1).bind fun x6 =>
   chk (x6.1.length = 256) <|
   chk (0 < x6.1.length) <|
   bif x6.2 then
    (fD a0 x6.1).bind fun x8 =>
    (cS x8 x6.1).bind fun x9 =>
    some x9
   else
    (iU a0 a1).bind fun x10 =>
    (gM x10 a1).bind fun x11 =>
    some x11
def nG (a0 : aA) : Option aA :=
 (pM a0 ([32, 9] : aA)).bind fun x1 =>
 some x1
def lQ (x : (Int × (List Bool))) : Option ((Int × (List Bool)) ⊕ (List Bool)) :=
 match x with
 | (s2, s3) =>
  bif (decide (s2 < 256)) then
   chk (0 <= s2 /\ s2 < 256) <|
   (seti s3 s2 (bif (bif (decide (s2 < 32)) then (s2 != 9) else false) then true else (s2 == 127))).bind fun x5 =>
   some (.inl ((IntKind.i64.wrap (s2 + 1)), x5))
  else
   some (.inr s3)
def l8 : Option (List Bool) :=
 (aQ lQ (0, (List.replicate 256 false)) : Option (List Bool)).bind fun j1 =>
 chk (0 < j1.length) (some j1)
def lY (a0 : aA) (a1 : (List Bool)) (a2i : (List Bool) -> Int -> Option Bool) (s1 : Int) : Option (Int ⊕ Bool) :=
 bif (decide (s1 < (a0.length : Int))) then
  (idx a0 s1).bind fun x2 =>
  (a2i a1 (x2.toNat : Int)).bind fun x3 =>
  bif x3 then
   some (.inr true)
  else
   some (.inl (IntKind.i64.wrap (s1 + 1)))
 else
  some (.inr false)
def sF (a0 : aA) (a1 : (List Bool)) (a2i : (List Bool) -> Int -> Option Bool) : Option Bool :=
 aQ (lY a0 a1 a2i) 0
def iW (a0 : (List Bool)) (a1 : Int) : Option Bool :=
 chk (0 <= a1 /\ a1 < 256) <|
 (idx a0 a1).bind fun x2 =>
 some x2
def fZ (a0 : aA) (x : ((List UInt8) × Int)) : Option (((List UInt8) × Int) ⊕ (aA × Int)) :=
 match x with
 | (s5, s6) =>
  bif (decide (s6 < (IntKind.i64.wrap ((a0.length : Int) - 1)))) then
   (idx a0 s6).bind fun x7 =>
   bif ((x7.toNat : Int) == 34) then
    some (.inr (([] : aA), 11))
   else
    bif ((x7.toNat : Int) == 92) then
     bif ((IntKind.i64.wrap (s6 + 1)) == (IntKind.i64.wrap ((a0.length : Int) - 1))) then
      some (.inr (([] : aA), 11))
     else
      (idx a0 (IntKind.i64.wrap (s6 + 1))).bind fun x8 =>
      (app 1 s5 ([u8 (x8.toNat : Int)] : List UInt8)).bind fun x9 =>
      some (.inl (x9, (IntKind.i64.wrap ((IntKind.i64.wrap (s6 + 1)) + 1))))
    else
     (idx a0 s6).bind fun x10 =>
     (app 1 s5 ([u8 (x10.toNat : Int)] : List UInt8)).bind fun x11 =>
     some (.inl (x11, (IntKind.i64.wrap (s6 + 1))))
  else
   some (.inr (s5, 0))
def nH (a0 : aA) : Option (aA × Int) :=
 (gidx (!(decide ((a0.length : Int) < 2))) a0 0).bind fun x1 =>
 (gidx (!(bif (decide ((a0.length : Int) < 2)) then true else ((x1.toNat : Int) != 34))) a0 (IntKind.i64.wrap ((a0.length : Int) - 1))).bind fun x2 =>
 (fU (!(bif (bif (decide ((a0.length : Int) < 2)) then true else ((x1.toNat : Int) != 34)) then true else ((x2.toNat : Int) != 34))) l8).bind fun x3 =>
 (fU (!(bif (bif (decide ((a0.length : Int) < 2)) then true else ((x1.toNat : Int) != 34)) then true else ((x2.toNat : Int) != 34))) (sF a0 x3 (fun x0 x1 => iW x0 x1))).bind fun x4 =>
 bif (bif (bif (bif (decide ((a0.length : Int) < 2)) then true else ((x1.toNat : Int) != 34)) then true else ((x2.toNat : Int) != 34)) then true else x4) then
  some (([] : aA), 11)
 else
  aQ (fZ a0) (([] : List UInt8), 1)
def l9 (a0 : aA) (oc0 : (List aE)) : Option (Unit × (List aE)) :=
 (nG a0).bind fun x1 =>
 (dQ x1 ([61] : aA)).bind fun x2 =>
 (nG x2.1).bind fun x3 =>
 (nG x2.2.1).bind fun x4 =>
 bif (bif (!x2.2.2) then true else (x3 == ([] : aA))) then
  some ((), oc0)
 else
  (nH x4).bind fun x5 =>
  bif (x5.2 == 0) then
   (app 32 oc0 ([(aE.mk x3 x5.1)] : List aE)).bind fun x6 =>
   some ((), x6)
  else
   (app 32 oc0 ([(aE.mk x3 x4)] : List aE)).bind fun x7 =>
   some ((), x7)
def cE (x1 : (List aA)) (x : (Int × (List aE))) : Option ((Int × (List aE)) ⊕ (Unit × (List aE))) :=
 match x with
 | (s2, s3) =>
  bif (decide (s2 < (x1.length : Int))) then
   (idx x1 s2).bind fun x4 =>
   bif (!(x4 == ([] : aA))) then
    (l9 x4 s3).bind fun x5 =>
    some (.inl ((IntKind.i64.wrap (s2 + 1)), x5.2))
   else
    some (.inl ((IntKind.i64.wrap (s2 + 1)), s3))
  else
   some (.inr ((), s3))
def eV (a0 : aA) (a1 : aA) (oa20 : (List aE)) : Option (Unit × (List aE)) :=
 (strings_Split a0 a1).bind fun x1 =>
 aQ (cE x1) (0, oa20)
def iG (a0 : aA) : Option (List aE) :=
 (eV a0 ([59] : aA) ([] : List aE)).bind fun x1 =>
 some x1.2
def aN (a0 : (List aE)) (a1i : aE -> Option Bool) (s1 : Int) : Option (Int ⊕ Int) :=
 bif (decide (s1 < (a0.length : Int))) then
  (idx a0 s1).bind fun x2 =>
  (a1i x2).bind fun x3 =>
  bif x3 then
   some (.inr s1)
  else
   some (.inl (IntKind.i64.wrap (s1 + 1)))
 else
  some (.inr (-1))
def cW (a0 : (List aE)) (a1i : aE -> Option Bool) : Option Int :=
 aQ (aN a0 a1i) 0
def iH (a0 : aE) (c0 : aA) : Option Bool :=
 some (a0.Name == c0)
def oK (a0 : (List aE)) (a1 : aA) : Option (aA × Bool) :=
 (cW a0 (fun x0 => iH x0 a1)).bind fun x1 =>
 bif (decide (x1 ≥ 0)) then
  (idx a0 x1).bind fun x2 =>
  some (x2.Value, true)
 else
  some (([] : aA), false)
def nI (a0 : aA) (c0 : aG) : Option (aA × Bool) :=
 (iG c0.Cookie).bind fun x1 =>
 (oK x1 a0).bind fun x2 =>
 some (x2.1, x2.2)
def i8 (a0 : aA) (x : (Int × (List UInt8))) : Option ((Int × (List UInt8)) ⊕ (List UInt8)) :=
 match x with
 | (s2, s3) =>
  bif (decide (s2 < ((a0.length : Nat) : Int))) then
   chk (0 <= s2 /\ s2 < (a0.length : Int)) <|
   (idx s3 s2).bind fun x5 =>
   bif (bif (decide ((x5.toNat : Int) ≥ 65)) then (decide ((x5.toNat : Int) <= 90)) else false) then
    chk (0 <= s2 /\ s2 < (a0.length : Int)) <|
    (seti s3 s2 (u8 (IntKind.u8.wrap ((IntKind.u8.wrap ((x5.toNat : Int) + 97)) - 65)))).bind fun x7 =>
    some (.inl ((IntKind.i64.wrap (s2 + 1)), x7))
   else
    some (.inl ((IntKind.i64.wrap (s2 + 1)), s3))
  else
   some (.inr s3)
def m7 (a0 : aA) : Option aA :=
 (aQ (i8 a0) (0, a0) : Option (List UInt8)).bind fun j1 =>
 chk (a0.length <= j1.length) <|
 some (j1.take a0.length)
def nJ (a0 : Int) : Option Int :=
 (m7 ([u8 a0] : List UInt8)).bind fun x1 =>
 (idx x1 0).bind fun x2 =>
 (fJ ([48, 49, 50, 51, 52, 53, 54, 55, 56, 57, 97, 98, 99, 100, 101, 102] : aA) (x2.toNat : Int)).bind fun x3 =>
 some x3
def iO (a0 : aA) (x : ((List UInt8) × Int)) : Option (((List UInt8) × Int) ⊕ (List UInt8)) :=
 match x with
 | (s2, s3) =>
  bif (decide (s3 < (a0.length : Int))) then
   (idx a0 s3).bind fun x4 =>
   bif ((x4.toNat : Int) == 43) then
    (app 1 s2 ([u8 32] : List UInt8)).bind fun x5 =>
    some (.inl (x5, (IntKind.i64.wrap (s3 + 1))))
   else
    (gidx (bif ((x4.toNat : Int) == 37) then (decide ((IntKind.i64.wrap (s3 + 2)) < (a0.length : Int))) else false) a0 (IntKind.i64.wrap (s3 + 1))).bind fun x6 =>
    (fU (bif ((x4.toNat : Int) == 37) then (decide ((IntKind.i64.wrap (s3 + 2)) < (a0.length : Int))) else false) (nJ (x6.toNat : Int))).bind fun x7 =>
    (gidx (bif (bif ((x4.toNat : Int) == 37) then (decide ((IntKind.i64.wrap (s3 + 2)) < (a0.length : Int))) else false) then (decide (x7 ≥ 0)) else false) a0 (IntKind.i64.wrap (s3 + 2))).bind fun x8 =>
    (fU (bif (bif ((x4.toNat : Int) == 37) then (decide ((IntKind.i64.wrap (s3 + 2)) < (a0.length : Int))) else false) then (decide (x7 ≥ 0)) else false) (nJ (x8.toNat : Int))).bind fun x9 =>
    bif (bif (bif (bif ((x4.toNat : Int) == 37) then (decide ((IntKind.i64.wrap (s3 + 2)) < (a0.length : Int))) else false) then (decide (x7 ≥ 0)) else false) then (decide (x9 ≥ 0)) else false) then
     (idx a0 (IntKind.i64.wrap (s3 + 1))).bind fun x10 =>
     (nJ (x10.toNat : Int)).bind fun x11 =>
     (idx a0 (IntKind.i64.wrap (s3 + 2))).bind fun x12 =>
     (nJ (x12.toNat : Int)).bind fun x13 =>
     (app 1 s2 ([u8 (IntKind.u8.wrap (IntKind.i64.wrap ((IntKind.i64.wrap (x11 * 16)) + x13)))] : List UInt8)).bind fun x14 =>
     some (.inl (x14, (IntKind.i64.wrap ((IntKind.i64.wrap (s3 + 2)) + 1))))
    else
     (app 1 s2 ([u8 (x4.toNat : Int)] : List UInt8)).bind fun x15 =>
     some (.inl (x15, (IntKind.i64.wrap (s3 + 1))))
  else
   some (.inr s2)
def m9 (a0 : aA) : Option aA :=
 (aQ (iO a0) (([] : List UInt8), 0) : Option (List UInt8)).bind fun j1 =>
 some j1
def oE (a0 : aA) (oc0 : (List aE)) : Option (Unit × (List aE)) :=
 (dQ a0 ([61] : aA)).bind fun x1 =>
 (m9 x1.1).bind fun x2 =>
 (m9 x1.2.1).bind fun x3 =>
 (app 32 oc0 ([(aE.mk x2 x3)] : List aE)).bind fun x4 =>
 some ((), x4)
def cK (x1 : (List aA)) (x : (Int × (List aE))) : Option ((Int × (List aE)) ⊕ (Unit × (List aE))) :=
 match x with
 | (s2, s3) =>
  bif (decide (s2 < (x1.length : Int))) then
   (idx x1 s2).bind fun x4 =>
   bif (!(x4 == ([] : aA))) then
    (oE x4 s3).bind fun x5 =>
    some (.inl ((IntKind.i64.wrap (s2 + 1)), x5.2))
   else
    some (.inl ((IntKind.i64.wrap (s2 + 1)), s3))
  else
   some (.inr ((), s3))
def fS (a0 : aA) (a1 : aA) (oa20 : (List aE)) : Option (Unit × (List aE)) :=
 (strings_Split a0 a1).bind fun x1 =>
 aQ (cK x1) (0, oa20)
def kA (a0 : aA) : Option (List aE) :=
 (fS a0 ([38] : aA) ([] : List aE)).bind fun x1 =>
 some x1.2
def nK (a0 : aA) (c0 : aG) : Option (aA × Bool) :=
 (kA c0.Query).bind fun x1 =>
 (oK x1 a0).bind fun x2 =>
 some (x2.1, x2.2)
def aY (a0 : (List aA)) (a1 : aA) (s1 : Int) : Option (Int ⊕ Int) :=
 bif (decide (s1 < (a0.length : Int))) then
  (idx a0 s1).bind fun x2 =>
  bif (a1 == x2) then
   some (.inr s1)
  else
   some (.inl (IntKind.i64.wrap (s1 + 1)))
 else
  some (.inr (-1))
def eW (a0 : (List aA)) (a1 : aA) : Option Int :=
 aQ (aY a0 a1) 0
def bA (a0 : (List aA)) (a1 : aA) : Option Bool :=
 (eW a0 a1).bind fun x1 =>
 some (decide (x1 ≥ 0))
def kL (a0 : aA) (oc0 : (List aA)) : Option (Unit × (List aA)) :=
 (dQ a0 ([59] : aA)).bind fun x1 =>
 (nG x1.1).bind fun x2 =>
 (m7 x2).bind fun x3 =>
 (fU (!(x3 == ([] : aA))) (bA oc0 x3)).bind fun x4 =>
 bif (bif (!(x3 == ([] : aA))) then (!x4) else false) then
  (app 16 oc0 ([x3] : List aA)).bind fun x5 =>
  some ((), x5)
 else
  some ((), oc0)
def bU (x1 : (List aA)) (x : (Int × (List aA))) : Option ((Int × (List aA)) ⊕ (Unit × (List aA))) :=
 match x with
 | (s2, s3) =>
  bif (decide (s2 < (x1.length : Int))) then
   (idx x1 s2).bind fun x4 =>
   bif (!(x4 == ([] : aA))) then
    (kL x4 s3).bind fun x5 =>
    some (.inl ((IntKind.i64.wrap (s2 + 1)), x5.2))
   else
    some (.inl ((IntKind.i64.wrap (s2 + 1)), s3))
  else
   some (.inr ((), s3))
def eE (a0 : aA) (a1 : aA) (oa20 : (List aA)) : Option (Unit × (List aA)) :=
 (strings_Split a0 a1).bind fun x1 =>
 aQ (bU x1) (0, oa20)
def f0 (a0 : aA) : Option (List aA) :=
 (eE a0 ([44] : aA) ([] : List aA)).bind fun x1 =>
 some x1.2
def nL (a0 : aA) (c0 : aG) : Option (aA × Bool) :=
 (f0 c0.Language).bind fun x1 =>
 (m7 a0).bind fun x2 =>
 (bA x1 x2).bind fun x3 =>
 bif x3 then
  some (([116, 114, 117, 101] : aA), true)
 else
  some (([102, 97, 108, 115, 101] : aA), true)
def hY (a0 : aG) (a1 : aA) (a2 : aA) : Option (aA × Bool) :=
 (tA a0).bind fun x1 =>
 bif (a1 == ([72, 84, 84, 80, 95, 72, 79, 83, 84] : aA)) then
  bif (!true) then
   some (([] : aA), false)
  else
   (m5 a2 x1.1).bind fun x3 =>
   some (x3.1, x3.2)
 else
  bif (a1 == ([72, 84, 84, 80, 95, 82, 69, 70, 69, 82, 69, 82] : aA)) then
   bif (!true) then
    some (([] : aA), false)
   else
    (m5 a2 x1.2.1).bind fun x5 =>
    some (x5.1, x5.2)
  else
   bif (a1 == ([72, 84, 84, 80, 95, 85, 83, 69, 82, 95, 65, 71, 69, 78, 84] : aA)) then
    bif (!true) then
     some (([] : aA), false)
    else
     (iF a2 x1.2.2.1.1 (fun x0 => nF x0 x1.2.2.1.2)).bind fun x7 =>
     some (x7.1, x7.2)
   else
    bif (a1 == ([72, 84, 84, 80, 95, 67, 79, 79, 75, 73, 69] : aA)) then
     bif (!true) then
      some (([] : aA), false)
     else
      (iF a2 x1.2.2.2.1.1 (fun x0 => nI x0 x1.2.2.2.1.2)).bind fun x9 =>
      some (x9.1, x9.2)
    else
     bif (a1 == ([81, 85, 69, 82, 89, 95, 83, 84, 82, 73, 78, 71] : aA)) then
      bif (!true) then
       some (([] : aA), false)
      else
       (iF a2 x1.2.2.2.2.1.1 (fun x0 => nK x0 x1.2.2.2.2.1.2)).bind fun x11 =>
       some (x11.1, x11.2)
     else
      bif (a1 == ([72, 84, 84, 80, 95, 65, 67, 67, 69, 80, 84, 95, 76, 65, 78, 71, 85, 65, 71, 69] : aA)) then
       bif (!true) then
        some (([] : aA), false)
       else
        (iF a2 x1.2.2.2.2.2.1 (fun x0 => nL x0 x1.2.2.2.2.2.2)).bind fun x13 =>
        some (x13.1, x13.2)
      else
       bif (!false) then
        some (([] : aA), false)
       else
        none
def mA (a0 : aG) (a1 : aA) : Option (aA × Int) :=
 (dU a1 ([36, 40] : aA)).bind fun x1 =>
 (kK x1.1 (fun x0 => lS x0)).bind fun x2 =>
 bif (bif (!x1.2) then true else (x2 == 0)) then
  fA.bind fun x3 =>
  some (x3.1, x3.2)
 else
  (slc x1.1 0 x2).bind fun x4 =>
  (slc x1.1 x2 (x1.1.length : Int)).bind fun x5 =>
  (aO x5 ([123] : aA)).bind fun x6 =>
  bif x6 then
   (slc x5 1 (x5.length : Int)).bind fun x7 =>
   (qU ([125, 41, 124, 39, 10, 13] : aA)).bind fun x8 =>
   (kK x7 (fun x0 => f9 x0 x8)).bind fun x9 =>
   (slc x5 1 (IntKind.i64.wrap (1 + x9))).bind fun x10 =>
   (gslc (!(x9 == 0)) x5 (IntKind.i64.wrap (1 + x9)) (x5.length : Int)).bind fun x11 =>
   (fU (!(x9 == 0)) (aO x11 ([125] : aA))).bind fun x12 =>
   bif (bif (x9 == 0) then true else (!x12)) then
    fA.bind fun x13 =>
    some (x13.1, x13.2)
   else
    (slc x5 (IntKind.i64.wrap (2 + x9)) (x5.length : Int)).bind fun x14 =>
    (aO x14 ([124, 39] : aA)).bind fun x15 =>
    bif x15 then
     (slc x14 2 (x14.length : Int)).bind fun x16 =>
     (dQ x16 ([39] : aA)).bind fun x17 =>
     bif (!x17.2.2) then
      fA.bind fun x18 =>
      some (x18.1, x18.2)
     else
      (aO x17.2.1 ([41] : aA)).bind fun x19 =>
      bif (!x19) then
       fA.bind fun x20 =>
       some (x20.1, x20.2)
      else
       (hY a0 x4 x10).bind fun x21 =>
       bif (!x21.2) then
        some (x17.1, (IntKind.i64.wrap ((IntKind.i64.wrap ((a1.length : Int) - (x17.2.1.length : Int))) + 1)))
       else
        some (x21.1, (IntKind.i64.wrap ((IntKind.i64.wrap ((a1.length : Int) - (x17.2.1.length : Int))) + 1)))
    else
     (aO x14 ([124] : aA)).bind fun x22 =>
     bif x22 then
      (slc x14 1 (x14.length : Int)).bind fun x23 =>
      (qU ([39, 41, 124, 10, 13] : aA)).bind fun x24 =>
      (kK x23 (fun x0 => f9 x0 x24)).bind fun x25 =>
      (slc x14 1 (IntKind.i64.wrap (1 + x25))).bind fun x26 =>
      (slc x14 (IntKind.i64.wrap (1 + x25)) (x14.length : Int)).bind fun x27 =>
      (aO x27 ([41] : aA)).bind fun x28 =>
      bif (!x28) then
       fA.bind fun x29 =>
       some (x29.1, x29.2)
      else
       (hY a0 x4 x10).bind fun x30 =>
       bif (!x30.2) then
        some (x26, (IntKind.i64.wrap ((IntKind.i64.wrap ((a1.length : Int) - (x27.length : Int))) + 1)))
       else
        some (x30.1, (IntKind.i64.wrap ((IntKind.i64.wrap ((a1.length : Int) - (x27.length : Int))) + 1)))
     else
      (aO x14 ([41] : aA)).bind fun x31 =>
      bif (!x31) then
       fA.bind fun x32 =>
       some (x32.1, x32.2)
      else
       (hY a0 x4 x10).bind fun x33 =>
       bif (!x33.2) then
        some (([] : aA), (IntKind.i64.wrap ((IntKind.i64.wrap ((a1.length : Int) - (x14.length : Int))) + 1)))
       else
        some (x33.1, (IntKind.i64.wrap ((IntKind.i64.wrap ((a1.length : Int) - (x14.length : Int))) + 1)))
  else
   (aO x5 ([124, 39] : aA)).bind fun x34 =>
   bif x34 then
    (slc x5 2 (x5.length : Int)).bind fun x35 =>
    (dQ x35 ([39] : aA)).bind fun x36 =>
    bif (!x36.2.2) then
     fA.bind fun x37 =>
     some (x37.1, x37.2)
    else
     (aO x36.2.1 ([41] : aA)).bind fun x38 =>
     bif (!x38) then
      fA.bind fun x39 =>
      some (x39.1, x39.2)
     else
      (hY a0 x4 ([] : aA)).bind fun x40 =>
      bif (!x40.2) then
       some (x36.1, (IntKind.i64.wrap ((IntKind.i64.wrap ((a1.length : Int) - (x36.2.1.length : Int))) + 1)))
      else
       some (x40.1, (IntKind.i64.wrap ((IntKind.i64.wrap ((a1.length : Int) - (x36.2.1.length : Int))) + 1)))
   else
    (aO x5 ([124] : aA)).bind fun x41 =>
    bif x41 then
     (slc x5 1 (x5.length : Int)).bind fun x42 =>
     (qU ([39, 41, 124, 10, 13] : aA)).bind fun x43 =>
     (kK x42 (fun x0 => f9 x0 x43)).bind fun x44 =>
     (slc x5 1 (IntKind.i64.wrap (1 + x44))).bind fun x45 =>
     (slc x5 (IntKind.i64.wrap (1 + x44)) (x5.length : Int)).bind fun x46 =>
     (aO x46 ([41] : aA)).bind fun x47 =>
     bif (!x47) then
      fA.bind fun x48 =>
      some (x48.1, x48.2)
     else
      (hY a0 x4 ([] : aA)).bind fun x49 =>
      bif (!x49.2) then
       some (x45, (IntKind.i64.wrap ((IntKind.i64.wrap ((a1.length : Int) - (x46.length : Int))) + 1)))
      else
       some (x49.1, (IntKind.i64.wrap ((IntKind.i64.wrap ((a1.length : Int) - (x46.length : Int))) + 1)))
    else
     (aO x5 ([41] : aA)).bind fun x50 =>
     bif (!x50) then
      fA.bind fun x51 =>
      some (x51.1, x51.2)
     else
      (hY a0 x4 ([] : aA)).bind fun x52 =>
      bif (!x52.2) then
       some (([] : aA), (IntKind.i64.wrap ((IntKind.i64.wrap ((a1.length : Int) - (x5.length : Int))) + 1)))
      else
       some (x52.1, (IntKind.i64.wrap ((IntKind.i64.wrap ((a1.length : Int) - (x5.length : Int))) + 1)))
def hG (a0 : aA) (a1 : aA) : Option aA :=
 (bX a0 a1).bind fun x1 =>
 bif x1 then
  (slc a0 (a1.length : Int) (a0.length : Int)).bind fun x2 =>
  some x2
 else
  some a0
def iI (a0 : aA) (a1 : aA) : Option aA :=
 (hG a0 a1).bind fun x1 =>
 some x1
def fB (a0 : aA) (a1 : Int) (a2i : Int -> Option Int) (x : (Int × Bool × Int)) : Option ((Int × Bool × Int) ⊕ (Int × Int)) :=
 match x with
 | (s1, s2, s3) =>
  bif (decide (s3 < (a0.length : Int))) then
   (idx a0 s3).bind fun x4 =>
   (a2i (x4.toNat : Int)).bind fun x5 =>
   bif (decide (x5 ≥ a1)) then
    some (.inr (0, 10))
   else
    bif (decide ((IntKind.i64.wrap ((IntKind.i64.wrap (s1 * a1)) + x5)) > 1099511627776)) then
     some (.inl (0, true, (IntKind.i64.wrap (s3 + 1))))
    else
     some (.inl ((IntKind.i64.wrap ((IntKind.i64.wrap (s1 * a1)) + x5)), s2, (IntKind.i64.wrap (s3 + 1))))
  else
   bif s2 then
    some (.inr (0, 2))
   else
    some (.inr (s1, 0))
def fK (a0 : aA) (a1 : Int) (a2i : Int -> Option Int) : Option (Int × Int) :=
 bif (a0 == ([] : aA)) then
  some (0, 10)
 else
  aQ (fB a0 a1 a2i) (0, false, 0)
def gZ (a0 : Int) : Option Int :=
 some (IntKind.i64.wrap (IntKind.u8.wrap (a0 - 48)))
def iJ (a0 : aA) : Option (Int × Int) :=
 (dU a0 ([45] : aA)).bind fun x1 =>
 (fK x1.1 10 (fun x0 => gZ x0)).bind fun x2 =>
 bif x1.2 then
  some ((IntKind.i64.wrap (0 - x2.1)), x2.2)
 else
  some (x2.1, x2.2)
def gA (o0 : aC) : Option (aB × aC) :=
 (eU o0).bind fun x1 =>
 (dU x1.2.s ([39] : aA)).bind fun x2 =>
 bif x2.2 then
  (dQ x2.1 ([39] : aA)).bind fun x3 =>
  bif (!x3.2.2) then
   (hR x1.2).bind fun x4 =>
   some (x4.1, x4.2)
  else
   some ((aB.mk 2 0 x3.1 ([] : aA) ([] : List aB)), (aC.mk x3.2.1 x1.2.bad))
 else
  (mA (aG.mk ([] : aA) ([] : aA) ([] : aA) ([] : aA) ([] : aA) ([] : aA)) x1.2.s).bind fun x5 =>
  bif (decide (x5.2 > 0)) then
   (slc x1.2.s 0 x5.2).bind fun x6 =>
   (slc x1.2.s x5.2 (x1.2.s.length : Int)).bind fun x7 =>
   some ((aB.mk 3 0 x6 ([] : aA) ([] : List aB)), (aC.mk x7 x1.2.bad))
  else
   (iI x1.2.s ([45] : aA)).bind fun x8 =>
   (cN x8 ([48, 49, 50, 51, 52, 53, 54, 55, 56, 57] : aA)).bind fun x9 =>
   (slc x1.2.s 0 (IntKind.i64.wrap ((x1.2.s.length : Int) - (x9.length : Int)))).bind fun x10 =>
   (iJ x10).bind fun x11 =>
   bif (x11.2 != 0) then
    (hR x1.2).bind fun x12 =>
    some (x12.1, x12.2)
   else
    some ((aB.mk 1 x11.1 ([] : aA) ([] : aA) ([] : List aB)), (aC.mk x9 x1.2.bad))
def oL : Option (List aA) :=
 some ([([61, 61] : aA), ([33, 61] : aA), ([60, 61] : aA), ([62, 61] : aA), ([60] : aA), ([62] : aA)] : List aA)
def fL (x1 : (List aA)) (x : (Int × aC)) : Option ((Int × aC) ⊕ (aA × aC)) :=
 match x with
 | (s2, s3) =>
  bif (decide (s2 < (x1.length : Int))) then
   (idx x1 s2).bind fun x4 =>
   (a7 s3 x4).bind fun x5 =>
   bif x5.1 then
    some (.inr (x4, x5.2))
   else
    some (.inl ((IntKind.i64.wrap (s2 + 1)), x5.2))
  else
   some (.inr (([] : aA), s3))
def jA (o0 : aC) : Option (aA × aC) :=
 oL.bind fun x1 =>
 aQ (fL x1) (0, o0)
def fM (aNa : aC -> Option (aB × aC)) (aNq : aC -> Option (aB × aC)) (o0 : aC) : Option (aB × aC) :=
 bif o0.bad then
  some ((aB.mk 0 0 ([] : aA) ([] : aA) ([] : List aB)), o0)
 else
  (a7 o0 ([33] : aA)).bind fun x1 =>
  bif x1.1 then
   (aNq x1.2).bind fun x2 =>
   some ((aB.mk 4 0 ([] : aA) ([] : aA) ([x2.1] : List aB)), x2.2)
  else
   (a7 x1.2 ([40] : aA)).bind fun x3 =>
   bif x3.1 then
    (aNa x3.2).bind fun x4 =>
    (a7 x4.2 ([41] : aA)).bind fun x5 =>
    bif (!x5.1) then
     (hR x5.2).bind fun x6 =>
     some (x6.1, x6.2)
    else
     some (x4.1, x5.2)
   else
    (gA x3.2).bind fun x7 =>
    (jA x7.2).bind fun x8 =>
    bif (x8.1 == ([] : aA)) then
     some (x7.1, x8.2)
    else
     (gA x8.2).bind fun x9 =>
     some ((aB.mk 7 0 ([] : aA) x8.1 ([x7.1, x9.1] : List aB)), x9.2)
def eP (aNa : aC -> Option (aB × aC)) : Nat -> aC -> Option (aB × aC)
 | 0 => fun _ => none
 | n + 1 => fM aNa (eP aNa n)
def mB (aNa : aC -> Option (aB × aC)) (o0 : aC) : Option (aB × aC) := eP aNa 1000000 o0
def eB (aNa : aC -> Option (aB × aC)) (a2 : aA) (x : ((List aB) × aC)) : Option (((List aB) × aC) ⊕ ((List aB) × aC)) :=
 match x with
 | (s3, s4) =>
  (a7 s4 a2).bind fun x5 =>
  bif x5.1 then
   (mB aNa x5.2).bind fun x6 =>
   (app 72 s3 ([x6.1] : List aB)).bind fun x7 =>
   some (.inl (x7, x6.2))
  else
   some (.inr (s3, x5.2))
def dD (aNa : aC -> Option (aB × aC)) (o0 : aC) (a1 : Int) (a2 : aA) : Option (aB × aC) :=
 (mB aNa o0).bind fun x1 =>
 (aQ (eB aNa a2) (([x1.1] : List aB), x1.2) : Option ((List aB) × aC)).bind fun j2 =>
 bif ((j2.1.length : Int) == 1) then
  (idx j2.1 0).bind fun x8 =>
  some (x8, j2.2)
 else
  some ((aB.mk a1 0 ([] : aA) ([] : aA) j2.1), j2.2)
def gS (aNa : aC -> Option (aB × aC)) (o0 : aC) : Option (aB × aC) :=
 (dD aNa o0 5 ([38] : aA)).bind fun x1 =>
 some (x1.1, x1.2)
def dW (aNa : aC -> Option (aB × aC)) (a2 : aA) (x : ((List aB) × aC)) : Option (((List aB) × aC) ⊕ ((List aB) × aC)) :=
 match x with
 | (s3, s4) =>
  (a7 s4 a2).bind fun x5 =>
  bif x5.1 then
   (gS aNa x5.2).bind fun x6 =>
   (app 72 s3 ([x6.1] : List aB)).bind fun x7 =>
   some (.inl (x7, x6.2))
  else
   some (.inr (s3, x5.2))
def cX (aNa : aC -> Option (aB × aC)) (o0 : aC) (a1 : Int) (a2 : aA) : Option (aB × aC) :=
 (gS aNa o0).bind fun x1 =>
 (aQ (dW aNa a2) (([x1.1] : List aB), x1.2) : Option ((List aB) × aC)).bind fun j2 =>
 bif ((j2.1.length : Int) == 1) then
  (idx j2.1 0).bind fun x8 =>
  some (x8, j2.2)
 else
  some ((aB.mk a1 0 ([] : aA) ([] : aA) j2.1), j2.2)
def iV (aNa : aC -> Option (aB × aC)) (o0 : aC) : Option (aB × aC) :=
 (cX aNa o0 6 ([124] : aA)).bind fun x1 =>
 some (x1.1, x1.2)
def gT : Nat -> aC -> Option (aB × aC)
 | 0 => fun _ => none
 | n + 1 => iV (gT n)
def oQ (o0 : aC) : Option (aB × aC) := gT 1000000 o0
def lT (x : ((List aB) × Int)) : Option (((List aB) × Int) ⊕ Bool) :=
 match x with
 | (s1, s2) =>
  bif (decide (s2 < (s1.length : Int))) then
   (idx s1 s2).bind fun x3 =>
   bif (decide ((x3.Kids.length : Int) > (IntKind.i64.wrap (60 - (s1.length : Int))))) then
    some (.inr false)
   else
    (idx s1 s2).bind fun x4 =>
    (app 72 s1 x4.Kids).bind fun x5 =>
    some (.inl (x5, (IntKind.i64.wrap (s2 + 1))))
  else
   some (.inr true)
def pN (a0 : aB) : Option Bool :=
 aQ lT (([a0] : List aB), 0)
def tB (a0 : aB) : Option Bool :=
 some (bif (a0.Kind == 5) then true else (a0.Kind == 6))
def kB (aNk : aB -> Option Int) (a0 : aB) (x : (Int × Int)) : Option ((Int × Int) ⊕ Int) :=
 match x with
 | (s2, s3) =>
  bif (decide (s3 < (a0.Kids.length : Int))) then
   (idx a0.Kids s3).bind fun x4 =>
   (aNk x4).bind fun x5 =>
   (tB x4).bind fun x6 =>
   bif x6 then
    some (.inl ((imax s2 (IntKind.i64.wrap (x5 + 1))), (IntKind.i64.wrap (s3 + 1))))
   else
    some (.inl ((imax s2 x5), (IntKind.i64.wrap (s3 + 1))))
  else
   some (.inr s2)
def oR (aNk : aB -> Option Int) (a0 : aB) : Option Int :=
 (aQ (kB aNk a0) (0, 0) : Option Int).bind fun j1 =>
 bif (a0.Kind == 4) then
  some (IntKind.i64.wrap (j1 + 1))
 else
  some j1
def kC : Nat -> aB -> Option Int
 | 0 => fun _ => none
 | n + 1 => oR (kC n)
def sG (a0 : aB) : Option Int := kC 1000000 a0
def p9 (a0 : aA) : Option (aB × Int) :=
 bif (decide ((a0.length : Int) > 400)) then
  some ((aB.mk 0 0 ([] : aA) ([] : aA) ([] : List aB)), 2)
 else
  (oQ (aC.mk a0 false)).bind fun x1 =>
  (eU x1.2).bind fun x2 =>
  bif (bif x2.2.bad then true else (!(x2.2.s == ([] : aA)))) then
   some ((aB.mk 0 0 ([] : aA) ([] : aA) ([] : List aB)), 50)
  else
   (pN x1.1).bind fun x3 =>
   bif (!x3) then
    some ((aB.mk 0 0 ([] : aA) ([] : aA) ([] : List aB)), 4)
   else
    (sG x1.1).bind fun x4 =>
    bif (decide (x4 > 16)) then
     some ((aB.mk 0 0 ([] : aA) ([] : aA) ([] : List aB)), 5)
    else
     some (x1.1, 0)
def lU (a0 : aB) : Option Bool :=
 some (bif (bif (a0.Kind == 1) then true else (a0.Kind == 2)) then true else (a0.Kind == 3))
def sH (a0 : aB) : Option Bool :=
 bif (bif (!(a0.Sign == ([] : aA))) then true else (decide ((a0.Kids.length : Int) > 0))) then
  some false
 else
  bif (a0.Kind == 1) then
   some (bif (bif (a0.Text == ([] : aA)) then (decide (a0.N ≥ (-1099511627776))) else false) then (decide (a0.N <= 1099511627776)) else false)
  else
   bif (a0.Kind == 2) then
    (fU (a0.N == 0) (bT a0.Text ([39] : aA))).bind fun x1 =>
    some (bif (a0.N == 0) then (!x1) else false)
   else
    (mA (aG.mk ([] : aA) ([] : aA) ([] : aA) ([] : aA) ([] : aA) ([] : aA)) a0.Text).bind fun x2 =>
    some (bif (bif (a0.N == 0) then (decide (x2.2 > 0)) else false) then (x2.2 == (a0.Text.length : Int)) else false)
def aV (a0 : (List aB)) (a1i : aB -> Option Bool) (s1 : Int) : Option (Int ⊕ Int) :=
 bif (decide (s1 < (a0.length : Int))) then
  (idx a0 s1).bind fun x2 =>
  (a1i x2).bind fun x3 =>
  bif x3 then
   some (.inr s1)
  else
   some (.inl (IntKind.i64.wrap (s1 + 1)))
 else
  some (.inr (-1))
def cY (a0 : (List aB)) (a1i : aB -> Option Bool) : Option Int :=
 aQ (aV a0 a1i) 0
def aM (a0 : (List aB)) (a1i : aB -> Option Bool) : Option Bool :=
 (cY a0 a1i).bind fun x1 =>
 some (decide (x1 ≥ 0))
def nA (aNh : aB -> Option Bool) (a0 : aB) : Option Bool :=
 (aNh a0).bind fun x1 =>
 some (!x1)
def oS (aNh : aB -> Option Bool) (a0 : aB) : Option Bool :=
 (lU a0).bind fun x1 =>
 bif x1 then
  (sH a0).bind fun x2 =>
  some x2
 else
  (fU (!(bif (a0.N != 0) then true else (!(a0.Text == ([] : aA))))) (aM a0.Kids (fun x0 => nA aNh x0))).bind fun x3 =>
  bif (bif (bif (a0.N != 0) then true else (!(a0.Text == ([] : aA)))) then true else x3) then
   some false
  else
   bif (a0.Kind == 7) then
    oL.bind fun x4 =>
    (bA x4 a0.Sign).bind fun x5 =>
    (gidx (bif x5 then ((a0.Kids.length : Int) == 2) else false) a0.Kids 0).bind fun x6 =>
    (fU (bif x5 then ((a0.Kids.length : Int) == 2) else false) (lU x6)).bind fun x7 =>
    (gidx (bif (bif x5 then ((a0.Kids.length : Int) == 2) else false) then x7 else false) a0.Kids 1).bind fun x8 =>
    (fU (bif (bif x5 then ((a0.Kids.length : Int) == 2) else false) then x7 else false) (lU x8)).bind fun x9 =>
    some (bif (bif (bif x5 then ((a0.Kids.length : Int) == 2) else false) then x7 else false) then x9 else false)
   else
    bif (a0.Kind == 4) then
     some (bif (a0.Sign == ([] : aA)) then ((a0.Kids.length : Int) == 1) else false)
    else
     bif (a0.Kind == 5) then
      bif (a0.Kind == 5) then
       some (bif (a0.Sign == ([] : aA)) then (decide ((a0.Kids.length : Int) ≥ 2)) else false)
      else
       some false
     else
      bif (a0.Kind == 6) then
       some (bif (a0.Sign == ([] : aA)) then (decide ((a0.Kids.length : Int) ≥ 2)) else false)
      else
       some false
def lV : Nat -> aB -> Option Bool
 | 0 => fun _ => none
 | n + 1 => oS (lV n)
def yH (a0 : aB) : Option Bool := lV 1000000 a0
def qA (a0 : aB) : Option Bool :=
 (pN a0).bind fun x1 =>
 (fU x1 (yH a0)).bind fun x2 =>
 (fU (bif x1 then x2 else false) (sG a0)).bind fun x3 =>
 some (bif (bif x1 then x2 else false) then (decide (x3 <= 16)) else false)
def iK (aNd : aG -> aB -> Option Bool) (a0 : aB) (c0 : aG) : Option Bool :=
 (aNd c0 a0).bind fun x1 =>
 some (!x1)
def lZ (aNd : aG -> aB -> Option Bool) (a0 : aB) (c0 : aG) : Option Bool :=
 (aNd c0 a0).bind fun x1 =>
 some x1
def nC (a0 : Int) : Option aA :=
 (jT a0 10).bind fun x1 =>
 some x1
def mC (aNl : aB -> Option aA) (a0 : aB) (x : ((List aA) × Int)) : Option (((List aA) × Int) ⊕ (List aA)) :=
 match x with
 | (s2, s3) =>
  bif (decide (s3 < (a0.Kids.length : Int))) then
   (idx a0.Kids s3).bind fun x4 =>
   (aNl x4).bind fun x5 =>
   (tB x4).bind fun x6 =>
   bif x6 then
    (cat ([40] : aA) x5).bind fun x7 =>
    (cat x7 ([41] : aA)).bind fun x8 =>
    (app 16 s2 ([x8] : List aA)).bind fun x9 =>
    some (.inl (x9, (IntKind.i64.wrap (s3 + 1))))
   else
    (app 16 s2 ([x5] : List aA)).bind fun x10 =>
    some (.inl (x10, (IntKind.i64.wrap (s3 + 1))))
  else
   some (.inr s2)
def nM (aNl : aB -> Option aA) (a0 : aB) : Option aA :=
 (aQ (mC aNl a0) (([] : List aA), 0) : Option (List aA)).bind fun j1 =>
 bif (a0.Kind == 1) then
  bif (decide (a0.N < 0)) then
   (nC (IntKind.u64.wrap (IntKind.i64.wrap (0 - a0.N)))).bind fun x11 =>
   (cat ([45] : aA) x11).bind fun x12 =>
   some x12
  else
   (nC (IntKind.u64.wrap a0.N)).bind fun x13 =>
   some x13
 else
  bif (a0.Kind == 2) then
   (cat ([39] : aA) a0.Text).bind fun x14 =>
   (cat x14 ([39] : aA)).bind fun x15 =>
   some x15
  else
   bif (a0.Kind == 3) then
    some a0.Text
   else
    bif (a0.Kind == 4) then
     (idx j1 0).bind fun x16 =>
     (cat ([33] : aA) x16).bind fun x17 =>
     some x17
    else
     bif (a0.Kind == 5) then
      (strings_Join j1 ([38] : aA)).bind fun x18 =>
      some x18
     else
      bif (a0.Kind == 6) then
       (strings_Join j1 ([124] : aA)).bind fun x19 =>
       some x19
      else
       (strings_Join j1 a0.Sign).bind fun x20 =>
       some x20
def kD : Nat -> aB -> Option aA
 | 0 => fun _ => none
 | n + 1 => nM (kD n)
def wD (a0 : aB) : Option aA := kD 1000000 a0
def kM (a0 : aG) (a1 : aB) : Option aA :=
 bif (a1.Kind == 2) then
  some a1.Text
 else
  bif (a1.Kind == 3) then
   (mA a0 a1.Text).bind fun x1 =>
   some x1.1
  else
   (wD a1).bind fun x2 =>
   some x2
def l0 (a0 : aA) (a1 : aA) : Option Int :=
 (iJ a0).bind fun x1 =>
 (iJ a1).bind fun x2 =>
 bif (bif (x1.2 != 0) then true else (x2.2 != 0)) then
  (strings_Compare a0 a1).bind fun x3 =>
  some x3
 else
  bif (decide (x1.1 < x2.1)) then
   some (-1)
  else
   bif (decide (x1.1 > x2.1)) then
    some 1
   else
    some 0
def nN (aNd : aG -> aB -> Option Bool) (a0 : aG) (a1 : aB) : Option Bool :=
 bif (a1.Kind == 1) then
  some (a1.N != 0)
 else
  bif (a1.Kind == 4) then
   (idx a1.Kids 0).bind fun x1 =>
   (iK aNd x1 a0).bind fun x2 =>
   some x2
  else
   bif (a1.Kind == 5) then
    (aM a1.Kids (fun x0 => iK aNd x0 a0)).bind fun x3 =>
    some (!x3)
   else
    bif (a1.Kind == 6) then
     (aM a1.Kids (fun x0 => lZ aNd x0 a0)).bind fun x4 =>
     some x4
    else
     bif (a1.Kind == 7) then
      (idx a1.Kids 0).bind fun x5 =>
      (kM a0 x5).bind fun x6 =>
      (idx a1.Kids 1).bind fun x7 =>
      (kM a0 x7).bind fun x8 =>
      (l0 x6 x8).bind fun x9 =>
      bif (a1.Sign == ([61, 61] : aA)) then
       some (x9 == 0)
      else
       bif (a1.Sign == ([33, 61] : aA)) then
        some (x9 != 0)
       else
        bif (a1.Sign == ([60] : aA)) then
         some (decide (x9 < 0))
        else
         bif (a1.Sign == ([62] : aA)) then
          some (decide (x9 > 0))
         else
          bif (a1.Sign == ([60, 61] : aA)) then
           some (decide (x9 <= 0))
          else
           some (decide (x9 ≥ 0))
     else
      (kM a0 a1).bind fun x10 =>
      some (x10 == ([116, 114, 117, 101] : aA))
def iL : Nat -> aG -> aB -> Option Bool
 | 0 => fun _ _ => none
 | n + 1 => nN (iL n)
def wE (a0 : aG) (a1 : aB) : Option Bool := iL 1000000 a0 a1
def nO (a0 : aG) (a1 : aB) : Option (Bool × Int) :=
 (qA a1).bind fun x1 =>
 bif (!x1) then
  some (false, 1)
 else
  (wE a0 a1).bind fun x2 =>
  some (x2, 0)
def mD (a0 : aG) (a1 : aA) : Option (Bool × Int) :=
 (p9 a1).bind fun x1 =>
 bif (x1.2 != 0) then
  some (false, x1.2)
 else
  (nO a0 x1.1).bind fun x2 =>
  some (x2.1, x2.2)
def d4 (a0 : aB) : Option Bool :=
 some (bif (decide (a0.Kind ≥ 1)) then (decide (a0.Kind <= 3)) else false)
def eX (a1 : Int) (x : (Int × aA)) : Option ((Int × aA) ⊕ aA) :=
 match x with
 | (s2, s3) =>
  bif (bif (decide (s2 > 0)) then true else (s3 == ([] : aA))) then
   chk ((a1 == 0) = false /\ IntKind.u64.wrap (s2.tmod a1) = s2.tmod a1) <|
   chk ((a1 == 0) = false /\ IntKind.u64.wrap (s2.tmod a1) = s2.tmod a1) <|
   (slc ([48, 49, 50, 51, 52, 53, 54, 55, 56, 57, 97, 98, 99, 100, 101, 102] : aA) (s2.tmod a1) (IntKind.u64.wrap ((s2.tmod a1) + 1))).bind fun x6 =>
   (cat x6 s3).bind fun x7 =>
   chk ((a1 == 0) = false) <|
   some (.inl ((IntKind.u64.wrap (s2.tdiv a1)), x7))
  else
   some (.inr s3)
def d5 (a0 : Int) (a1 : Int) : Option aA :=
 (aQ (eX a1) (a0, ([] : aA)) : Option aA).bind fun j1 =>
 some j1
def jO (aNc : aB -> Option aA) (a0 : aB) (x : (aA × Int)) : Option ((aA × Int) ⊕ aA) :=
 match x with
 | (s7, s8) =>
  bif (decide (s8 < (a0.Kids.length : Int))) then
   (idx a0.Kids s8).bind fun x9 =>
   bif (decide (s8 > 0)) then
    (cat s7 ([124] : aA)).bind fun x10 =>
    (bO x9).bind fun x11 =>
    bif x11 then
     (cat x10 ([40] : aA)).bind fun x12 =>
     (aNc x9).bind fun x13 =>
     (cat x12 x13).bind fun x14 =>
     (cat x14 ([41] : aA)).bind fun x15 =>
     some (.inl (x15, (IntKind.i64.wrap (s8 + 1))))
    else
     (aNc x9).bind fun x16 =>
     (cat x10 x16).bind fun x17 =>
     some (.inl (x17, (IntKind.i64.wrap (s8 + 1))))
   else
    (bO x9).bind fun x18 =>
    bif x18 then
     (cat s7 ([40] : aA)).bind fun x19 =>
     (aNc x9).bind fun x20 =>
     (cat x19 x20).bind fun x21 =>
     (cat x21 ([41] : aA)).bind fun x22 =>
     some (.inl (x22, (IntKind.i64.wrap (s8 + 1))))
    else
     (aNc x9).bind fun x23 =>
     (cat s7 x23).bind fun x24 =>
     some (.inl (x24, (IntKind.i64.wrap (s8 + 1))))
  else
   some (.inr s7)
def jP (aNc : aB -> Option aA) (a0 : aB) (x : (aA × Int)) : Option ((aA × Int) ⊕ aA) :=
 match x with
 | (s27, s28) =>
  bif (decide (s28 < (a0.Kids.length : Int))) then
   (idx a0.Kids s28).bind fun x29 =>
   bif (decide (s28 > 0)) then
    (cat s27 ([38] : aA)).bind fun x30 =>
    (bO x29).bind fun x31 =>
    bif x31 then
     (cat x30 ([40] : aA)).bind fun x32 =>
     (aNc x29).bind fun x33 =>
     (cat x32 x33).bind fun x34 =>
     (cat x34 ([41] : aA)).bind fun x35 =>
     some (.inl (x35, (IntKind.i64.wrap (s28 + 1))))
    else
     (aNc x29).bind fun x36 =>
     (cat x30 x36).bind fun x37 =>
     some (.inl (x37, (IntKind.i64.wrap (s28 + 1))))
   else
    (bO x29).bind fun x38 =>
    bif x38 then
     (cat s27 ([40] : aA)).bind fun x39 =>
     (aNc x29).bind fun x40 =>
     (cat x39 x40).bind fun x41 =>
     (cat x41 ([41] : aA)).bind fun x42 =>
     some (.inl (x42, (IntKind.i64.wrap (s28 + 1))))
    else
     (aNc x29).bind fun x43 =>
     (cat s27 x43).bind fun x44 =>
     some (.inl (x44, (IntKind.i64.wrap (s28 + 1))))
  else
   some (.inr s27)
def jQ (aNc : aB -> Option aA) (a0 : aB) (x : (aA × Int)) : Option ((aA × Int) ⊕ aA) :=
 match x with
 | (s47, s48) =>
  bif (decide (s48 < (a0.Kids.length : Int))) then
   (idx a0.Kids s48).bind fun x49 =>
   bif (decide (s48 > 0)) then
    (cat s47 ([124] : aA)).bind fun x50 =>
    (bO x49).bind fun x51 =>
    bif x51 then
     (cat x50 ([40] : aA)).bind fun x52 =>
     (aNc x49).bind fun x53 =>
     (cat x52 x53).bind fun x54 =>
     (cat x54 ([41] : aA)).bind fun x55 =>
     some (.inl (x55, (IntKind.i64.wrap (s48 + 1))))
    else
     (aNc x49).bind fun x56 =>
     (cat x50 x56).bind fun x57 =>
     some (.inl (x57, (IntKind.i64.wrap (s48 + 1))))
   else
    (bO x49).bind fun x58 =>
    bif x58 then
     (cat s47 ([40] : aA)).bind fun x59 =>
     (aNc x49).bind fun x60 =>
     (cat x59 x60).bind fun x61 =>
     (cat x61 ([41] : aA)).bind fun x62 =>
     some (.inl (x62, (IntKind.i64.wrap (s48 + 1))))
    else
     (aNc x49).bind fun x63 =>
     (cat s47 x63).bind fun x64 =>
     some (.inl (x64, (IntKind.i64.wrap (s48 + 1))))
  else
   some (.inr s47)
def jR (aNc : aB -> Option aA) (a0 : aB) (x : (aA × Int)) : Option ((aA × Int) ⊕ aA) :=
 match x with
 | (s67, s68) =>
  bif (decide (s68 < (a0.Kids.length : Int))) then
   (idx a0.Kids s68).bind fun x69 =>
   bif (decide (s68 > 0)) then
    (cat s67 a0.Sign).bind fun x70 =>
    (bO x69).bind fun x71 =>
    bif x71 then
     (cat x70 ([40] : aA)).bind fun x72 =>
     (aNc x69).bind fun x73 =>
     (cat x72 x73).bind fun x74 =>
     (cat x74 ([41] : aA)).bind fun x75 =>
     some (.inl (x75, (IntKind.i64.wrap (s68 + 1))))
    else
     (aNc x69).bind fun x76 =>
     (cat x70 x76).bind fun x77 =>
     some (.inl (x77, (IntKind.i64.wrap (s68 + 1))))
   else
    (bO x69).bind fun x78 =>
    bif x78 then
     (cat s67 ([40] : aA)).bind fun x79 =>
     (aNc x69).bind fun x80 =>
     (cat x79 x80).bind fun x81 =>
     (cat x81 ([41] : aA)).bind fun x82 =>
     some (.inl (x82, (IntKind.i64.wrap (s68 + 1))))
    else
     (aNc x69).bind fun x83 =>
     (cat s67 x83).bind fun x84 =>
     some (.inl (x84, (IntKind.i64.wrap (s68 + 1))))
  else
   some (.inr s67)
def f5 (aNc : aB -> Option aA) (a0 : aB) : Option aA :=
 bif (bif (a0.Kind == 1) then (decide (a0.N < 0)) else false) then
  (d5 (IntKind.u64.wrap (IntKind.i64.wrap (0 - a0.N))) 10).bind fun x1 =>
  (cat ([45] : aA) x1).bind fun x2 =>
  some x2
 else
  bif (a0.Kind == 1) then
   (d5 (IntKind.u64.wrap a0.N) 10).bind fun x3 =>
   some x3
  else
   bif (a0.Kind == 2) then
    (cat ([39] : aA) a0.Text).bind fun x4 =>
    (cat x4 ([39] : aA)).bind fun x5 =>
    some x5
   else
    bif (a0.Kind == 3) then
     some a0.Text
    else
     bif (a0.Kind == 5) then
      bif (a0.Kind == 6) then
       (aQ (jO aNc a0) (([] : aA), 0) : Option aA).bind fun j6 =>
       bif (a0.Kind == 4) then
        (cat ([33] : aA) j6).bind fun x25 =>
        some x25
       else
        some j6
      else
       (aQ (jP aNc a0) (([] : aA), 0) : Option aA).bind fun j26 =>
       bif (a0.Kind == 4) then
        (cat ([33] : aA) j26).bind fun x45 =>
        some x45
       else
        some j26
     else
      bif (a0.Kind == 6) then
       (aQ (jQ aNc a0) (([] : aA), 0) : Option aA).bind fun j46 =>
       bif (a0.Kind == 4) then
        (cat ([33] : aA) j46).bind fun x65 =>
        some x65
       else
        some j46
      else
       (aQ (jR aNc a0) (([] : aA), 0) : Option aA).bind fun j66 =>
       bif (a0.Kind == 4) then
        (cat ([33] : aA) j66).bind fun x85 =>
        some x85
       else
        some j66
def eQ : Nat -> aB -> Option aA
 | 0 => fun _ => none
 | n + 1 => f5 (eQ n)
def lW (a0 : aB) : Option aA := eQ 1000000 a0
def cZ (a0 : aG) (a1 : aB) : Option aA :=
 bif (a1.Kind == 3) then
  (cH a0 a1.Text).bind fun x1 =>
  some x1.1
 else
  bif (a1.Kind == 2) then
   some a1.Text
  else
   (lW a1).bind fun x2 =>
   some x2
def d7 (a0 : aA) (a1 : aA) : Option Bool :=
 (dZ a0).bind fun x1 =>
 (dZ a1).bind fun x2 =>
 bif (bif (x1.2 == 0) then (x2.2 == 0) else false) then
  some (decide (x1.1 < x2.1))
 else
  some (Op.bytesLess a0 a1)
def bP (aNm : aG -> aB -> Option Bool) (a0 : aG) (a1 : aB) (x : (Bool × Bool × Int)) : Option ((Bool × Bool × Int) ⊕ (Bool × Bool)) :=
 match x with
 | (s10, s11, s12) =>
  bif (decide (s12 < (a1.Kids.length : Int))) then
   (idx a1.Kids s12).bind fun x13 =>
   (aNm a0 x13).bind fun x14 =>
   some (.inl ((bif s10 then x14 else false), (bif s11 then true else x14), (IntKind.i64.wrap (s12 + 1))))
  else
   some (.inr (s10, s11))
def f6 (aNm : aG -> aB -> Option Bool) (a0 : aG) (a1 : aB) : Option Bool :=
 bif (a1.Kind == 1) then
  some (a1.N != 0)
 else
  (d4 a1).bind fun x1 =>
  bif x1 then
   (cZ a0 a1).bind fun x2 =>
   some (x2 == ([116, 114, 117, 101] : aA))
  else
   bif (a1.Kind == 7) then
    (idx a1.Kids 0).bind fun x3 =>
    (cZ a0 x3).bind fun x4 =>
    (idx a1.Kids 1).bind fun x5 =>
    (cZ a0 x5).bind fun x6 =>
    (d7 x4 x6).bind fun x7 =>
    (d7 x6 x4).bind fun x8 =>
    bif (a1.Sign == ([61, 61] : aA)) then
     some (bif (!x7) then (!x8) else false)
    else
     bif (a1.Sign == ([33, 61] : aA)) then
      some (bif x7 then true else x8)
     else
      bif (a1.Sign == ([60] : aA)) then
       some x7
      else
       bif (a1.Sign == ([62] : aA)) then
        some x8
       else
        bif (a1.Sign == ([60, 61] : aA)) then
         some (!x8)
        else
         some (!x7)
   else
    (aQ (bP aNm a0 a1) (true, false, 0) : Option (Bool × Bool)).bind fun j9 =>
    bif (a1.Kind == 4) then
     some (!j9.2)
    else
     bif (a1.Kind == 5) then
      some j9.1
     else
      some j9.2
def bM : Nat -> aG -> aB -> Option Bool
 | 0 => fun _ _ => none
 | n + 1 => f6 (bM n)
def fN (a0 : aG) (a1 : aB) : Option Bool := bM 1000000 a0 a1
def fO : Option Bool :=
 (mD (aG.mk ([] : aA) ([] : aA) ([] : aA) ([] : aA) ([] : aA) ([] : aA)) ([49, 61, 61, 49, 32, 38, 32, 33, 40, 39, 97, 39, 62, 39, 98, 39, 41] : aA)).bind fun x1 =>
 (mD (aG.mk ([] : aA) ([] : aA) ([] : aA) ([] : aA) ([] : aA) ([] : aA)) ([49, 48, 60, 57] : aA)).bind fun x2 =>
 some (bif (bif (bif (x1.2 == 0) then (x2.2 == 0) else false) then x1.1 else false) then (!x2.1) else false)
def dX (a0 : aA) (s1 : Int) : Option (Int ⊕ Bool) :=
 bif (decide (s1 < (a0.length : Int))) then
  (idx a0 s1).bind fun x2 =>
  bif ((x2.toNat : Int) == 39) then
   some (.inr false)
  else
   some (.inl (IntKind.i64.wrap (s1 + 1)))
 else
  some (.inr true)
def gJ (a0 : aA) : Option Bool :=
 aQ (dX a0) 0
def dR (aNn : aB -> Option Bool) (a0 : aB) (s3 : Int) : Option (Int ⊕ Bool) :=
 bif (decide (s3 < (a0.Kids.length : Int))) then
  (idx a0.Kids s3).bind fun x4 =>
  (aNn x4).bind fun x5 =>
  bif (!x5) then
   some (.inr false)
  else
   some (.inl (IntKind.i64.wrap (s3 + 1)))
 else
  bif (!(a0.Text == ([] : aA))) then
   some (.inr false)
  else
   bif (a0.Kind == 7) then
    (d3 a0.Sign).bind fun x6 =>
    (gidx (bif x6 then ((a0.Kids.length : Int) == 2) else false) a0.Kids 0).bind fun x7 =>
    (fU (bif x6 then ((a0.Kids.length : Int) == 2) else false) (d4 x7)).bind fun x8 =>
    (gidx (bif (bif x6 then ((a0.Kids.length : Int) == 2) else false) then x8 else false) a0.Kids 1).bind fun x9 =>
    (fU (bif (bif x6 then ((a0.Kids.length : Int) == 2) else false) then x8 else false) (d4 x9)).bind fun x10 =>
    some (.inr (bif (bif (bif x6 then ((a0.Kids.length : Int) == 2) else false) then x8 else false) then x10 else false))
   else
    (fU ((a0.Sign == ([] : aA)) && (!(bif (a0.Kind == 4) then ((a0.Kids.length : Int) == 1) else false))) (bO a0)).bind fun x11 =>
    some (.inr (bif (a0.Sign == ([] : aA)) then (bif (bif (a0.Kind == 4) then ((a0.Kids.length : Int) == 1) else false) then true else (bif x11 then (decide ((a0.Kids.length : Int) > 1)) else false)) else false))
def gK (aNn : aB -> Option Bool) (a0 : aB) : Option Bool :=
 bif (a0.Kind == 1) then
  some (bif (bif (bif (bif ((a0.Kids.length : Int) == 0) then (a0.Text == ([] : aA)) else false) then (a0.Sign == ([] : aA)) else false) then (decide (a0.N <= 1099511627776)) else false) then (decide (a0.N ≥ (-1099511627776))) else false)
 else
  bif (a0.N != 0) then
   some false
  else
   bif (a0.Kind == 2) then
    (fU (bif ((a0.Kids.length : Int) == 0) then (a0.Sign == ([] : aA)) else false) (gJ a0.Text)).bind fun x1 =>
    some (bif (bif ((a0.Kids.length : Int) == 0) then (a0.Sign == ([] : aA)) else false) then x1 else false)
   else
    bif (a0.Kind == 3) then
     (cH (aG.mk ([] : aA) ([] : aA) ([] : aA) ([] : aA) ([] : aA) ([] : aA)) a0.Text).bind fun x2 =>
     some (bif (bif (bif ((a0.Kids.length : Int) == 0) then (a0.Sign == ([] : aA)) else false) then (decide (x2.2 > 0)) else false) then (x2.2 == (a0.Text.length : Int)) else false)
    else
     aQ (dR aNn a0) 0
def c7 : Nat -> aB -> Option Bool
 | 0 => fun _ => none
 | n + 1 => gK (c7 n)
def mE (a0 : aB) : Option Bool := c7 1000000 a0
def g7 (a0 : aB) : Option Bool :=
 (d6 a0 60).bind fun x1 =>
 (fU (decide (x1 <= 60)) (mE a0)).bind fun x2 =>
 (fU (bif (decide (x1 <= 60)) then x2 else false) (jU a0)).bind fun x3 =>
 some (bif (bif (decide (x1 <= 60)) then x2 else false) then (decide (x3 <= 16)) else false)
def eY (a0 : aG) (a1 : aB) (a2 : aA) : Option Bool :=
 (gR a0).bind fun x1 =>
 (slc a2 0 (imin (a2.length : Int) 410)).bind fun x2 =>
 (gX x2).bind fun x3 =>
 (mD x1 x2).bind fun x4 =>
 (fU ((!(x4.2 != x3.2)) && (x3.2 == 0)) (fN x1 x3.1)).bind fun x5 =>
 (fU (!(bif (x4.2 != x3.2) then true else (!(x4.1 == (bif (x3.2 == 0) then x5 else false))))) fO).bind fun x6 =>
 bif (bif (bif (x4.2 != x3.2) then true else (!(x4.1 == (bif (x3.2 == 0) then x5 else false)))) then true else (!x6)) then
  some false
 else
  (nO x1 a1).bind fun x7 =>
  (d6 a1 60).bind fun x8 =>
  (fU (!(decide (x8 > 60))) (g7 a1)).bind fun x9 =>
  bif (bif (decide (x8 > 60)) then true else (!x9)) then
   some (bif (x7.2 == 1) then (!x7.1) else false)
  else
   (fU (x7.2 == 0) (fN x1 a1)).bind fun x10 =>
   some (bif (x7.2 == 0) then (x7.1 == x10) else false)
end
end Go.Proofs.YtdobepgddhbncaaGreatDoor