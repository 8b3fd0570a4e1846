/-
  The plain images of the functions, written by a program of mine (gen.py) off the translation.
-/
import Derived.Test.YtdobepgddhbncaaGreatDoorGi7
import Derived.Test.YtdobepgddhbncaaGreatDoorGi6
import Derived.Test.YtdobepgddhbncaaGreatDoorGi1
namespace Go.Proofs.YtdobepgddhbncaaGreatDoor
open Go Go.Pm
noncomputable section
set_option linter.unusedSimpArgs false
set_option linter.unusedVariables false
structure aL where
 Host : aA
 Referer : aA
 Agent : aA
 Cookie : aA
 Language : aA
 Query : aA
instance : Inhabited aL := ⟨⟨default, default, default, default, default, default⟩⟩
def aL.cells (x : aL) : List AV := [AV.str x.Host, AV.str x.Referer, AV.str x.Agent, AV.str x.Cookie, AV.str x.Language, AV.str x.Query]
def aL.av (x : aL) : AV := .agg (aL.cells x)
structure aB where
 Kind : Int
 N : Int
 Text : aA
 Sign : aA
 Kids : (List aB)
instance : Inhabited aB := ⟨⟨default, default, default, default, default⟩⟩
mutual
def aB.avR : aB -> AV
 | ⟨Kind, N, Text, Sign, Kids⟩ => .agg [AV.int .i64 Kind, AV.int .i64 N, AV.str Text, AV.str Sign, AV.list 5 (aB.avRs Kids)]
def aB.avRs : List aB -> List AV
 | [] => []
 | x :: l => aB.avR x :: aB.avRs l
end
theorem aB.avRs_eq : ∀ l, aB.avRs l = l.map aB.avR
 | [] => rfl
 | x :: l => congrArg (aB.avR x :: ·) (aB.avRs_eq l)
def aB.cells (x : aB) : List AV := [AV.int .i64 x.Kind, AV.int .i64 x.N, AV.str x.Text, AV.str x.Sign, AV.list 5 (x.Kids.map aB.avR)]
def aB.av (x : aB) : AV := .agg (aB.cells x)
theorem aB.av_eq (x : aB) : aB.avR x = aB.av x := by
 cases x; unfold aB.avR aB.av aB.cells; rw [aB.avRs_eq]
structure aE where
 Name : aA
 Value : aA
instance : Inhabited aE := ⟨⟨default, default⟩⟩
def aE.cells (x : aE) : List AV := [AV.str x.Name, AV.str x.Value]
def aE.av (x : aE) : AV := .agg (aE.cells x)
structure aC where
 s : aA
 bad : Bool
instance : Inhabited aC := ⟨⟨default, default⟩⟩
def aC.cells (x : aC) : List AV := [AV.str x.s, AV.bool x.bad]
def aC.av (x : aC) : AV := .agg (aC.cells x)
structure bW where
 e0 : aA
 e1 : aA
 e2 : aA
instance : Inhabited bW := ⟨⟨default, default, default⟩⟩
def bW.cells (x : bW) : List AV := [AV.str x.e0, AV.str x.e1, AV.str x.e2]
def bW.av (x : bW) : AV := .agg (bW.cells x)
structure bD where
 e0 : aA
 e1 : aA
instance : Inhabited bD := ⟨⟨default, default⟩⟩
def bD.cells (x : bD) : List AV := [AV.str x.e0, AV.str x.e1]
def bD.av (x : bD) : AV := .agg (bD.cells x)
def gW (a0 : Int) : Option Bool :=
 some (bif (bif (bif (a0 == 32) then true else (a0 == 9)) then true else (a0 == 10)) then true else (a0 == 13))
def aG (a0 : aA) (a1 : Int) : Option Int :=
 bif (decide (a1 < (a0.length : Int))) then
  (idx a0 a1).bind fun x1 =>
  some (x1.toNat : Int)
 else
  some 0
def eD (a0 : aA) (a2 : aA) (s1 : Int) (s2 : Int) : Option (Int ⊕ (Int ⊕ Int)) :=
 bif (decide (s2 < (a2.length : Int))) then
  (idx a0 s1).bind fun x3 =>
  (idx a2 s2).bind fun x4 =>
  bif ((x3.toNat : Int) == (x4.toNat : Int)) then
   some (.inr (.inr s1))
  else
   some (.inl (IntKind.i64.wrap (s2 + 1)))
 else
  some (.inr (.inl (IntKind.i64.wrap (s1 + 1))))
def fE (a0 : aA) (a2 : aA) (s1 : Int) : Option (Int ⊕ Int) :=
 bif (decide (s1 < (a0.length : Int))) then
  aR (eD a0 a2 s1) 0
 else
  some (.inr s1)
def cA (a0 : aA) (a1 : Int) (a2 : aA) : Option Int :=
 aR (fE a0 a2) a1
def fF (a0 : aA) (a1 : aA) (s1 : Int) : Option (Int ⊕ Int) :=
 bif (decide ((IntKind.i64.wrap (s1 + (a1.length : Int))) <= (a0.length : Int))) then
  (slc a0 s1 (IntKind.i64.wrap (s1 + (a1.length : Int)))).bind fun x2 =>
  bif (x2 == a1) then
   some (.inr s1)
  else
   some (.inl (IntKind.i64.wrap (s1 + 1)))
 else
  some (.inr (-1))
def bK (a0 : aA) (a1 : aA) : Option Int :=
 aR (fF a0 a1) 0
def dS (a0 : aA) (s3 : Int) : Option (Int ⊕ Int) :=
 (gidx (decide (s3 < (a0.length : Int))) a0 s3).bind fun x4 =>
 (gidx ((decide (s3 < (a0.length : Int))) && (decide ((x4.toNat : Int) ≥ 48))) a0 s3).bind fun x5 =>
 (gidx ((decide (s3 < (a0.length : Int))) && (!(bif (decide ((x4.toNat : Int) ≥ 48)) then (decide ((x5.toNat : Int) <= 57)) else false))) a0 s3).bind fun x6 =>
 bif (bif (decide (s3 < (a0.length : Int))) then (bif (bif (decide ((x4.toNat : Int) ≥ 48)) then (decide ((x5.toNat : Int) <= 57)) else false) then true else ((x6.toNat : Int) == 46)) else false) then
  some (.inl (IntKind.i64.wrap (s3 + 1)))
 else
  some (.inr s3)
def bF (a0 : aA) (a1 : aA) : Option aA :=
 (bK a0 a1).bind fun x1 =>
 bif (decide (x1 < 0)) then
  some ([] : aA)
 else
  (aR (dS a0) (IntKind.i64.wrap (x1 + (a1.length : Int))) : Option Int).bind fun j2 =>
  (slc a0 (IntKind.i64.wrap (x1 + (a1.length : Int))) j2).bind fun x7 =>
  some x7
def gX (a0 : aA) : Option (aA × aA × aA) :=
 (bK a0 ([87, 105, 110, 100, 111, 119, 115] : aA)).bind fun x1 =>
 bif (decide (x1 ≥ 0)) then
  (bK a0 ([77, 83, 73, 69] : aA)).bind fun x2 =>
  bif (decide (x2 ≥ 0)) then
   (bF a0 ([77, 83, 73, 69, 32] : aA)).bind fun x3 =>
   some (([77, 83, 73, 69] : aA), x3, ([87, 73, 78] : aA))
  else
   (bK a0 ([77, 111, 122, 105, 108, 108, 97] : aA)).bind fun x4 =>
   bif (decide (x4 ≥ 0)) then
    (bF a0 ([77, 111, 122, 105, 108, 108, 97, 47] : aA)).bind fun x5 =>
    some (([77, 79, 90, 73, 76, 76, 65] : aA), x5, ([87, 73, 78] : aA))
   else
    some (([79, 84, 72, 69, 82] : aA), ([] : aA), ([87, 73, 78] : aA))
 else
  (bK a0 ([77, 97, 99] : aA)).bind fun x6 =>
  bif (decide (x6 ≥ 0)) then
   (bK a0 ([77, 83, 73, 69] : aA)).bind fun x7 =>
   bif (decide (x7 ≥ 0)) then
    (bF a0 ([77, 83, 73, 69, 32] : aA)).bind fun x8 =>
    some (([77, 83, 73, 69] : aA), x8, ([77, 65, 67] : aA))
   else
    (bK a0 ([77, 111, 122, 105, 108, 108, 97] : aA)).bind fun x9 =>
    bif (decide (x9 ≥ 0)) then
     (bF a0 ([77, 111, 122, 105, 108, 108, 97, 47] : aA)).bind fun x10 =>
     some (([77, 79, 90, 73, 76, 76, 65] : aA), x10, ([77, 65, 67] : aA))
    else
     some (([79, 84, 72, 69, 82] : aA), ([] : aA), ([77, 65, 67] : aA))
  else
   (bK a0 ([88, 49, 49] : aA)).bind fun x11 =>
   bif (decide (x11 ≥ 0)) then
    (bK a0 ([77, 83, 73, 69] : aA)).bind fun x12 =>
    bif (decide (x12 ≥ 0)) then
     (bF a0 ([77, 83, 73, 69, 32] : aA)).bind fun x13 =>
     some (([77, 83, 73, 69] : aA), x13, ([85, 78, 73, 88] : aA))
    else
     (bK a0 ([77, 111, 122, 105, 108, 108, 97] : aA)).bind fun x14 =>
     bif (decide (x14 ≥ 0)) then
      (bF a0 ([77, 111, 122, 105, 108, 108, 97, 47] : aA)).bind fun x15 =>
      some (([77, 79, 90, 73, 76, 76, 65] : aA), x15, ([85, 78, 73, 88] : aA))
     else
      some (([79, 84, 72, 69, 82] : aA), ([] : aA), ([85, 78, 73, 88] : aA))
   else
    (bK a0 ([77, 83, 73, 69] : aA)).bind fun x16 =>
    bif (decide (x16 ≥ 0)) then
     (bF a0 ([77, 83, 73, 69, 32] : aA)).bind fun x17 =>
     some (([77, 83, 73, 69] : aA), x17, ([79, 84, 72, 69, 82] : aA))
    else
     (bK a0 ([77, 111, 122, 105, 108, 108, 97] : aA)).bind fun x18 =>
     bif (decide (x18 ≥ 0)) then
      (bF a0 ([77, 111, 122, 105, 108, 108, 97, 47] : aA)).bind fun x19 =>
      some (([77, 79, 90, 73, 76, 76, 65] : aA), x19, ([79, 84, 72, 69, 82] : aA))
     else
      some (([79, 84, 72, 69, 82] : aA), ([] : aA), ([79, 84, 72, 69, 82] : aA))
def bQ (a0 : aA) (a1 : aA) : Option aA :=
 (gX a0).bind fun x1 =>
 bif (a1 == ([98, 114, 111, 119, 115, 101, 114] : aA)) then
  some x1.1
 else
  bif (a1 == ([118, 101, 114, 115, 105, 111, 110] : aA)) then
   some x1.2.1
  else
   bif (a1 == ([111, 115] : aA)) then
    some x1.2.2
   else
    some ([] : aA)
def eW (a0 : aA) (a1 : Int) (s1 : Int) : Option (Int ⊕ (aA × aA × Bool)) :=
 bif (decide (s1 < (a0.length : Int))) then
  (idx a0 s1).bind fun x2 =>
  bif ((x2.toNat : Int) == a1) then
   (slc a0 0 s1).bind fun x3 =>
   (slc a0 (IntKind.i64.wrap (s1 + 1)) (a0.length : Int)).bind fun x4 =>
   some (.inr (x3, x4, true))
  else
   some (.inl (IntKind.i64.wrap (s1 + 1)))
 else
  some (.inr (a0, ([] : aA), false))
def cM (a0 : aA) (a1 : Int) : Option (aA × aA × Bool) :=
 aR (eW a0 a1) 0
def e8 (a1 : Int) (x : (aA × (List aA))) : Option ((aA × (List aA)) ⊕ (List aA)) :=
 match x with
 | (s1, s2) =>
  (cM s1 a1).bind fun x3 =>
  (app 16 s2 ([x3.1] : List aA)).bind fun x4 =>
  bif (!x3.2.2) then
   some (.inr x4)
  else
   some (.inl (x3.2.1, x4))
def eE (a0 : aA) (a1 : Int) : Option (List aA) :=
 aR (e8 a1) (a0, ([] : List aA))
def fG (a0 : Int) : Option Bool :=
 some (bif (a0 == 32) then true else (a0 == 9))
def iD (s2 : aA) : Option (aA ⊕ aA) :=
 (gidx (decide ((s2.length : Int) > 0)) s2 0).bind fun x3 =>
 (f6 (decide ((s2.length : Int) > 0)) (fG (x3.toNat : Int))).bind fun x4 =>
 bif (bif (decide ((s2.length : Int) > 0)) then x4 else false) then
  (slc s2 1 (s2.length : Int)).bind fun x5 =>
  some (.inl x5)
 else
  some (.inr s2)
def iE (s7 : aA) : Option (aA ⊕ aA) :=
 (gidx (decide ((s7.length : Int) > 0)) s7 (IntKind.i64.wrap ((s7.length : Int) - 1))).bind fun x8 =>
 (f6 (decide ((s7.length : Int) > 0)) (fG (x8.toNat : Int))).bind fun x9 =>
 bif (bif (decide ((s7.length : Int) > 0)) then x9 else false) then
  (slc s7 0 (IntKind.i64.wrap ((s7.length : Int) - 1))).bind fun x10 =>
  some (.inl x10)
 else
  some (.inr s7)
def eO (a0 : aA) : Option aA :=
 (aR iD a0 : Option aA).bind fun j1 =>
 (aR iE j1 : Option aA).bind fun j6 =>
 some j6
def cZ (a0 : aA) (s2 : Int) : Option (Int ⊕ Int) :=
 (gidx (decide (s2 < (a0.length : Int))) a0 s2).bind fun x3 =>
 bif (bif (decide (s2 < (a0.length : Int))) then ((x3.toNat : Int) != 34) else false) then
  (idx a0 s2).bind fun x4 =>
  bif ((x4.toNat : Int) == 92) then
   some (.inl (IntKind.i64.wrap ((IntKind.i64.wrap (s2 + 1)) + 1)))
  else
   some (.inl (IntKind.i64.wrap (s2 + 1)))
 else
  some (.inr s2)
def iU (a0 : aA) (a1 : Int) : Option Int :=
 (aR (cZ a0) (IntKind.i64.wrap (a1 + 1)) : Option Int).bind fun j1 =>
 bif (decide (j1 ≥ (a0.length : Int))) then
  some (-1)
 else
  some (IntKind.i64.wrap (j1 + 1))
def fU (a0 : Int) : Option Bool :=
 some (bif (bif (decide (a0 < 32)) then (a0 != 9) else false) then true else (a0 == 127))
def bL (a0 : aA) (x : (aA × Int)) : Option ((aA × Int) ⊕ (aA × Int)) :=
 match x with
 | (s3, s4) =>
  bif (decide (s4 < (IntKind.i64.wrap ((a0.length : Int) - 1)))) then
   (idx a0 s4).bind fun x5 =>
   bif ((x5.toNat : Int) == 92) then
    (idx a0 (IntKind.i64.wrap (s4 + 1))).bind fun x6 =>
    (fU (x6.toNat : Int)).bind fun x7 =>
    bif x7 then
     some (.inr (([] : aA), 11))
    else
     (slc a0 (IntKind.i64.wrap (s4 + 1)) (IntKind.i64.wrap ((IntKind.i64.wrap (s4 + 1)) + 1))).bind fun x8 =>
     (cat s3 x8).bind fun x9 =>
     some (.inl (x9, (IntKind.i64.wrap ((IntKind.i64.wrap (s4 + 1)) + 1))))
   else
    (idx a0 s4).bind fun x10 =>
    (fU (x10.toNat : Int)).bind fun x11 =>
    bif x11 then
     some (.inr (([] : aA), 11))
    else
     (slc a0 s4 (IntKind.i64.wrap (s4 + 1))).bind fun x12 =>
     (cat s3 x12).bind fun x13 =>
     some (.inl (x13, (IntKind.i64.wrap (s4 + 1))))
  else
   some (.inr (s3, 0))
def fV (a0 : aA) : Option (aA × Int) :=
 (gidx (!(a0 == ([] : aA))) a0 0).bind fun x1 =>
 (f6 (!(bif (a0 == ([] : aA)) then true else ((x1.toNat : Int) != 34))) (iU a0 0)).bind fun x2 =>
 bif (bif (bif (a0 == ([] : aA)) then true else ((x1.toNat : Int) != 34)) then true else (x2 != (a0.length : Int))) then
  some (([] : aA), 11)
 else
  aR (bL a0) (([] : aA), 1)
def dD (x2 : (List aA)) (x : ((List aE) × Int)) : Option (((List aE) × Int) ⊕ (List aE)) :=
 match x with
 | (s3, s4) =>
  bif (decide (s4 < (x2.length : Int))) then
   (idx x2 s4).bind fun x5 =>
   (cM x5 61).bind fun x6 =>
   (eO x6.1).bind fun x7 =>
   (eO x6.2.1).bind fun x8 =>
   (fV x8).bind fun x9 =>
   bif (x9.2 == 0) then
    bif (bif x6.2.2 then (!(x7 == ([] : aA))) else false) then
     (app 32 s3 ([(aE.mk x7 x9.1)] : List aE)).bind fun x10 =>
     some (.inl (x10, (IntKind.i64.wrap (s4 + 1))))
    else
     some (.inl (s3, (IntKind.i64.wrap (s4 + 1))))
   else
    bif (bif x6.2.2 then (!(x7 == ([] : aA))) else false) then
     (app 32 s3 ([(aE.mk x7 x8)] : List aE)).bind fun x11 =>
     some (.inl (x11, (IntKind.i64.wrap (s4 + 1))))
    else
     some (.inl (s3, (IntKind.i64.wrap (s4 + 1))))
  else
   some (.inr s3)
def aZ (a0 : aA) : Option (List aE) :=
 ((eE a0 59).bind fun x2 =>
 aR (dD x2) (([] : List aE), 0) : Option (List aE)).bind fun j1 =>
 some j1
def cG (a0 : (List aE)) (a1 : aA) (s1 : Int) : Option (Int ⊕ (aA × Bool)) :=
 bif (decide (s1 < (a0.length : Int))) then
  (idx a0 s1).bind fun x2 =>
  bif (x2.Name == a1) then
   some (.inr (x2.Value, true))
  else
   some (.inl (IntKind.i64.wrap (s1 + 1)))
 else
  some (.inr (([] : aA), false))
def aV (a0 : (List aE)) (a1 : aA) : Option (aA × Bool) :=
 aR (cG a0 a1) 0
def cT (a0 : Int) : Option Int :=
 bif (bif (decide (a0 ≥ 48)) then (decide (a0 <= 57)) else false) then
  some (IntKind.i64.wrap (IntKind.u8.wrap (a0 - 48)))
 else
  bif (bif (decide (a0 ≥ 97)) then (decide (a0 <= 102)) else false) then
   some (IntKind.i64.wrap ((IntKind.i64.wrap (IntKind.u8.wrap (a0 - 97))) + 10))
  else
   bif (bif (decide (a0 ≥ 65)) then (decide (a0 <= 70)) else false) then
    some (IntKind.i64.wrap ((IntKind.i64.wrap (IntKind.u8.wrap (a0 - 65))) + 10))
   else
    some 99
def c8 (x : (aA × aA)) : Option ((aA × aA) ⊕ aA) :=
 match x with
 | (s2, s3) =>
  bif (!(s2 == ([] : aA))) then
   (idx s2 0).bind fun x4 =>
   bif ((x4.toNat : Int) == 43) then
    (cat s3 ([32] : aA)).bind fun x5 =>
    (slc s2 1 (s2.length : Int)).bind fun x6 =>
    some (.inl (x6, x5))
   else
    (idx s2 0).bind fun x7 =>
    (gidx (bif ((x7.toNat : Int) == 37) then (decide ((s2.length : Int) > 2)) else false) s2 1).bind fun x8 =>
    (f6 (bif ((x7.toNat : Int) == 37) then (decide ((s2.length : Int) > 2)) else false) (cT (x8.toNat : Int))).bind fun x9 =>
    (gidx (bif (bif ((x7.toNat : Int) == 37) then (decide ((s2.length : Int) > 2)) else false) then (decide (x9 < 16)) else false) s2 2).bind fun x10 =>
    (f6 (bif (bif ((x7.toNat : Int) == 37) then (decide ((s2.length : Int) > 2)) else false) then (decide (x9 < 16)) else false) (cT (x10.toNat : Int))).bind fun x11 =>
    bif (bif (bif (bif ((x7.toNat : Int) == 37) then (decide ((s2.length : Int) > 2)) else false) then (decide (x9 < 16)) else false) then (decide (x11 < 16)) else false) then
     (idx s2 1).bind fun x12 =>
     (cT (x12.toNat : Int)).bind fun x13 =>
     (idx s2 2).bind fun x14 =>
     (cT (x14.toNat : Int)).bind fun x15 =>
     (cat s3 ([u8 (IntKind.u8.wrap (IntKind.i64.wrap ((IntKind.i64.wrap (16 * x13)) + x15)))] : List UInt8)).bind fun x16 =>
     (slc s2 3 (s2.length : Int)).bind fun x17 =>
     some (.inl (x17, x16))
    else
     (slc s2 0 1).bind fun x18 =>
     (cat s3 x18).bind fun x19 =>
     (slc s2 1 (s2.length : Int)).bind fun x20 =>
     some (.inl (x20, x19))
  else
   some (.inr s3)
def fH (a0 : aA) : Option aA :=
 (aR c8 (a0, ([] : aA)) : Option aA).bind fun j1 =>
 some j1
def d5 (x2 : (List aA)) (x : ((List aE) × Int)) : Option (((List aE) × Int) ⊕ (List aE)) :=
 match x with
 | (s3, s4) =>
  bif (decide (s4 < (x2.length : Int))) then
   (idx x2 s4).bind fun x5 =>
   bif (!(x5 == ([] : aA))) then
    (cM x5 61).bind fun x6 =>
    (fH x6.1).bind fun x7 =>
    (fH x6.2.1).bind fun x8 =>
    (app 32 s3 ([(aE.mk x7 x8)] : List aE)).bind fun x9 =>
    some (.inl (x9, (IntKind.i64.wrap (s4 + 1))))
   else
    some (.inl (s3, (IntKind.i64.wrap (s4 + 1))))
  else
   some (.inr s3)
def bE (a0 : aA) : Option (List aE) :=
 ((eE a0 38).bind fun x2 =>
 aR (d5 x2) (([] : List aE), 0) : Option (List aE)).bind fun j1 =>
 some j1
def d6 (a0 : aA) (x : (aA × Int)) : Option ((aA × Int) ⊕ aA) :=
 match x with
 | (s2, s3) =>
  bif (decide (s3 < (a0.length : Int))) then
   (idx a0 s3).bind fun x4 =>
   bif (bif (decide ((x4.toNat : Int) ≥ 65)) then (decide ((x4.toNat : Int) <= 90)) else false) then
    (cat s2 ([u8 (IntKind.u8.wrap ((x4.toNat : Int) + 32))] : List UInt8)).bind fun x5 =>
    some (.inl (x5, (IntKind.i64.wrap (s3 + 1))))
   else
    (cat s2 ([u8 (x4.toNat : Int)] : List UInt8)).bind fun x6 =>
    some (.inl (x6, (IntKind.i64.wrap (s3 + 1))))
  else
   some (.inr s2)
def bR (a0 : aA) : Option aA :=
 (aR (d6 a0) (([] : aA), 0) : Option aA).bind fun j1 =>
 some j1
def cE (s3 : (List aA)) (x9 : aA) (x : (Bool × Int)) : Option ((Bool × Int) ⊕ Bool) :=
 match x with
 | (s11, s12) =>
  bif (decide (s12 < (s3.length : Int))) then
   (idx s3 s12).bind fun x13 =>
   some (.inl ((bif s11 then true else (x13 == x9)), (IntKind.i64.wrap (s12 + 1))))
  else
   some (.inr s11)
def cS (x2 : (List aA)) (x : ((List aA) × Int)) : Option (((List aA) × Int) ⊕ (List aA)) :=
 match x with
 | (s3, s4) =>
  bif (decide (s4 < (x2.length : Int))) then
   ((idx x2 s4).bind fun x6 =>
   (cM x6 59).bind fun x7 =>
   (eO x7.1).bind fun x8 =>
   (bR x8).bind fun x9 =>
   (aR (cE s3 x9) ((x9 == ([] : aA)), 0) : Option Bool).bind fun j10 =>
   bif (!j10) then
    (app 16 s3 ([x9] : List aA)).bind fun x14 =>
    some x14
   else
    some s3 : Option (List aA)).bind fun j5 =>
   some (.inl (j5, (IntKind.i64.wrap (s4 + 1))))
  else
   some (.inr s3)
def aT (a0 : aA) : Option (List aA) :=
 ((eE a0 44).bind fun x2 =>
 aR (cS x2) (([] : List aA), 0) : Option (List aA)).bind fun j1 =>
 some j1
def cC (a2 : aA) (x6 : (List aA)) (s7 : Int) : Option (Int ⊕ (aA × Bool)) :=
 bif (decide (s7 < (x6.length : Int))) then
  (idx x6 s7).bind fun x8 =>
  (bR a2).bind fun x9 =>
  bif (x8 == x9) then
   some (.inr (([116, 114, 117, 101] : aA), true))
  else
   some (.inl (IntKind.i64.wrap (s7 + 1)))
 else
  some (.inr (([102, 97, 108, 115, 101] : aA), true))
def jL (a2 : aA) (x15 : (List aA)) (s16 : Int) : Option (Int ⊕ (aA × Bool)) :=
 bif (decide (s16 < (x15.length : Int))) then
  (idx x15 s16).bind fun x17 =>
  (bR a2).bind fun x18 =>
  bif (x17 == x18) then
   some (.inr (([116, 114, 117, 101] : aA), true))
  else
   some (.inl (IntKind.i64.wrap (s16 + 1)))
 else
  some (.inr (([102, 97, 108, 115, 101] : aA), true))
def jM (a2 : aA) (x24 : (List aA)) (s25 : Int) : Option (Int ⊕ (aA × Bool)) :=
 bif (decide (s25 < (x24.length : Int))) then
  (idx x24 s25).bind fun x26 =>
  (bR a2).bind fun x27 =>
  bif (x26 == x27) then
   some (.inr (([116, 114, 117, 101] : aA), true))
  else
   some (.inl (IntKind.i64.wrap (s25 + 1)))
 else
  some (.inr (([102, 97, 108, 115, 101] : aA), true))
def jN (a2 : aA) (x33 : (List aA)) (s34 : Int) : Option (Int ⊕ (aA × Bool)) :=
 bif (decide (s34 < (x33.length : Int))) then
  (idx x33 s34).bind fun x35 =>
  (bR a2).bind fun x36 =>
  bif (x35 == x36) then
   some (.inr (([116, 114, 117, 101] : aA), true))
  else
   some (.inl (IntKind.i64.wrap (s34 + 1)))
 else
  some (.inr (([102, 97, 108, 115, 101] : aA), true))
def jO (a2 : aA) (x42 : (List aA)) (s43 : Int) : Option (Int ⊕ (aA × Bool)) :=
 bif (decide (s43 < (x42.length : Int))) then
  (idx x42 s43).bind fun x44 =>
  (bR a2).bind fun x45 =>
  bif (x44 == x45) then
   some (.inr (([116, 114, 117, 101] : aA), true))
  else
   some (.inl (IntKind.i64.wrap (s43 + 1)))
 else
  some (.inr (([102, 97, 108, 115, 101] : aA), true))
def jP (a2 : aA) (x51 : (List aA)) (s52 : Int) : Option (Int ⊕ (aA × Bool)) :=
 bif (decide (s52 < (x51.length : Int))) then
  (idx x51 s52).bind fun x53 =>
  (bR a2).bind fun x54 =>
  bif (x53 == x54) then
   some (.inr (([116, 114, 117, 101] : aA), true))
  else
   some (.inl (IntKind.i64.wrap (s52 + 1)))
 else
  some (.inr (([102, 97, 108, 115, 101] : aA), true))
def jQ (a2 : aA) (x60 : (List aA)) (s61 : Int) : Option (Int ⊕ (aA × Bool)) :=
 bif (decide (s61 < (x60.length : Int))) then
  (idx x60 s61).bind fun x62 =>
  (bR a2).bind fun x63 =>
  bif (x62 == x63) then
   some (.inr (([116, 114, 117, 101] : aA), true))
  else
   some (.inl (IntKind.i64.wrap (s61 + 1)))
 else
  some (.inr (([102, 97, 108, 115, 101] : aA), true))
def bS (a0 : aL) (a1 : aA) (a2 : aA) : Option (aA × Bool) :=
 bif (a1 == ([72, 84, 84, 80, 95, 72, 79, 83, 84] : aA)) then
  bif (a2 == ([] : aA)) then
   some (a0.Host, (!(a0.Host == ([] : aA))))
  else
   bif (a1 == ([72, 84, 84, 80, 95, 85, 83, 69, 82, 95, 65, 71, 69, 78, 84] : aA)) then
    (bQ a0.Agent a2).bind fun x1 =>
    some (x1, (!(x1 == ([] : aA))))
   else
    bif (a1 == ([72, 84, 84, 80, 95, 67, 79, 79, 75, 73, 69] : aA)) then
     (aZ a0.Cookie).bind fun x2 =>
     (aV x2 a2).bind fun x3 =>
     some (x3.1, x3.2)
    else
     bif (a1 == ([81, 85, 69, 82, 89, 95, 83, 84, 82, 73, 78, 71] : aA)) then
      (bE a0.Query).bind fun x4 =>
      (aV x4 a2).bind fun x5 =>
      some (x5.1, x5.2)
     else
      bif (a1 == ([72, 84, 84, 80, 95, 65, 67, 67, 69, 80, 84, 95, 76, 65, 78, 71, 85, 65, 71, 69] : aA)) then
       (aT a0.Language).bind fun x6 =>
       aR (cC a2 x6) 0
      else
       some (([] : aA), false)
 else
  bif (a1 == ([72, 84, 84, 80, 95, 82, 69, 70, 69, 82, 69, 82] : aA)) then
   bif (a2 == ([] : aA)) then
    some (a0.Referer, (!(a0.Referer == ([] : aA))))
   else
    bif (a1 == ([72, 84, 84, 80, 95, 85, 83, 69, 82, 95, 65, 71, 69, 78, 84] : aA)) then
     (bQ a0.Agent a2).bind fun x10 =>
     some (x10, (!(x10 == ([] : aA))))
    else
     bif (a1 == ([72, 84, 84, 80, 95, 67, 79, 79, 75, 73, 69] : aA)) then
      (aZ a0.Cookie).bind fun x11 =>
      (aV x11 a2).bind fun x12 =>
      some (x12.1, x12.2)
     else
      bif (a1 == ([81, 85, 69, 82, 89, 95, 83, 84, 82, 73, 78, 71] : aA)) then
       (bE a0.Query).bind fun x13 =>
       (aV x13 a2).bind fun x14 =>
       some (x14.1, x14.2)
      else
       bif (a1 == ([72, 84, 84, 80, 95, 65, 67, 67, 69, 80, 84, 95, 76, 65, 78, 71, 85, 65, 71, 69] : aA)) then
        (aT a0.Language).bind fun x15 =>
        aR (jL a2 x15) 0
       else
        some (([] : aA), false)
  else
   bif (a1 == ([72, 84, 84, 80, 95, 85, 83, 69, 82, 95, 65, 71, 69, 78, 84] : aA)) then
    bif (a2 == ([] : aA)) then
     some (a0.Agent, (!(a0.Agent == ([] : aA))))
    else
     bif (a1 == ([72, 84, 84, 80, 95, 85, 83, 69, 82, 95, 65, 71, 69, 78, 84] : aA)) then
      (bQ a0.Agent a2).bind fun x19 =>
      some (x19, (!(x19 == ([] : aA))))
     else
      bif (a1 == ([72, 84, 84, 80, 95, 67, 79, 79, 75, 73, 69] : aA)) then
       (aZ a0.Cookie).bind fun x20 =>
       (aV x20 a2).bind fun x21 =>
       some (x21.1, x21.2)
      else
       bif (a1 == ([81, 85, 69, 82, 89, 95, 83, 84, 82, 73, 78, 71] : aA)) then
        (bE a0.Query).bind fun x22 =>
        (aV x22 a2).bind fun x23 =>
        some (x23.1, x23.2)
       else
        bif (a1 == ([72, 84, 84, 80, 95, 65, 67, 67, 69, 80, 84, 95, 76, 65, 78, 71, 85, 65, 71, 69] : aA)) then
         (aT a0.Language).bind fun x24 =>
         aR (jM a2 x24) 0
        else
         some (([] : aA), false)
   else
    bif (a1 == ([72, 84, 84, 80, 95, 67, 79, 79, 75, 73, 69] : aA)) then
     bif (a2 == ([] : aA)) then
      some (a0.Cookie, (!(a0.Cookie == ([] : aA))))
     else
      bif (a1 == ([72, 84, 84, 80, 95, 85, 83, 69, 82, 95, 65, 71, 69, 78, 84] : aA)) then
       (bQ a0.Agent a2).bind fun x28 =>
       some (x28, (!(x28 == ([] : aA))))
      else
       bif (a1 == ([72, 84, 84, 80, 95, 67, 79, 79, 75, 73, 69] : aA)) then
        (aZ a0.Cookie).bind fun x29 =>
        (aV x29 a2).bind fun x30 =>
        some (x30.1, x30.2)
       else
        bif (a1 == ([81, 85, 69, 82, 89, 95, 83, 84, 82, 73, 78, 71] : aA)) then
         (bE a0.Query).bind fun x31 =>
         (aV x31 a2).bind fun x32 =>
         some (x32.1, x32.2)
        else
         bif (a1 == ([72, 84, 84, 80, 95, 65, 67, 67, 69, 80, 84, 95, 76, 65, 78, 71, 85, 65, 71, 69] : aA)) then
          (aT a0.Language).bind fun x33 =>
          aR (jN a2 x33) 0
         else
          some (([] : aA), false)
    else
     bif (a1 == ([81, 85, 69, 82, 89, 95, 83, 84, 82, 73, 78, 71] : aA)) then
      bif (a2 == ([] : aA)) then
       some (a0.Query, (!(a0.Query == ([] : aA))))
      else
       bif (a1 == ([72, 84, 84, 80, 95, 85, 83, 69, 82, 95, 65, 71, 69, 78, 84] : aA)) then
        (bQ a0.Agent a2).bind fun x37 =>
        some (x37, (!(x37 == ([] : aA))))
       else
        bif (a1 == ([72, 84, 84, 80, 95, 67, 79, 79, 75, 73, 69] : aA)) then
         (aZ a0.Cookie).bind fun x38 =>
         (aV x38 a2).bind fun x39 =>
         some (x39.1, x39.2)
        else
         bif (a1 == ([81, 85, 69, 82, 89, 95, 83, 84, 82, 73, 78, 71] : aA)) then
          (bE a0.Query).bind fun x40 =>
          (aV x40 a2).bind fun x41 =>
          some (x41.1, x41.2)
         else
          bif (a1 == ([72, 84, 84, 80, 95, 65, 67, 67, 69, 80, 84, 95, 76, 65, 78, 71, 85, 65, 71, 69] : aA)) then
           (aT a0.Language).bind fun x42 =>
           aR (jO a2 x42) 0
          else
           some (([] : aA), false)
     else
      bif (a1 == ([72, 84, 84, 80, 95, 65, 67, 67, 69, 80, 84, 95, 76, 65, 78, 71, 85, 65, 71, 69] : aA)) then
       bif (a2 == ([] : aA)) then
        some (a0.Language, (!(a0.Language == ([] : aA))))
       else
        bif (a1 == ([72, 84, 84, 80, 95, 85, 83, 69, 82, 95, 65, 71, 69, 78, 84] : aA)) then
         (bQ a0.Agent a2).bind fun x46 =>
         some (x46, (!(x46 == ([] : aA))))
        else
         bif (a1 == ([72, 84, 84, 80, 95, 67, 79, 79, 75, 73, 69] : aA)) then
          (aZ a0.Cookie).bind fun x47 =>
          (aV x47 a2).bind fun x48 =>
          some (x48.1, x48.2)
         else
          bif (a1 == ([81, 85, 69, 82, 89, 95, 83, 84, 82, 73, 78, 71] : aA)) then
           (bE a0.Query).bind fun x49 =>
           (aV x49 a2).bind fun x50 =>
           some (x50.1, x50.2)
          else
           bif (a1 == ([72, 84, 84, 80, 95, 65, 67, 67, 69, 80, 84, 95, 76, 65, 78, 71, 85, 65, 71, 69] : aA)) then
            (aT a0.Language).bind fun x51 =>
            aR (jP a2 x51) 0
           else
            some (([] : aA), false)
      else
       bif (a2 == ([] : aA)) then
        some (([] : aA), (!(([] : aA) == ([] : aA))))
       else
        bif (a1 == ([72, 84, 84, 80, 95, 85, 83, 69, 82, 95, 65, 71, 69, 78, 84] : aA)) then
         (bQ a0.Agent a2).bind fun x55 =>
         some (x55, (!(x55 == ([] : aA))))
        else
         bif (a1 == ([72, 84, 84, 80, 95, 67, 79, 79, 75, 73, 69] : aA)) then
          (aZ a0.Cookie).bind fun x56 =>
          (aV x56 a2).bind fun x57 =>
          some (x57.1, x57.2)
         else
          bif (a1 == ([81, 85, 69, 82, 89, 95, 83, 84, 82, 73, 78, 71] : aA)) then
           (bE a0.Query).bind fun x58 =>
           (aV x58 a2).bind fun x59 =>
           some (x59.1, x59.2)
          else
           bif (a1 == ([72, 84, 84, 80, 95, 65, 67, 67, 69, 80, 84, 95, 76, 65, 78, 71, 85, 65, 71, 69] : aA)) then
            (aT a0.Language).bind fun x60 =>
            aR (jQ a2 x60) 0
           else
            some (([] : aA), false)
def bN (a1 : aA) (s2 : Int) : Option (Int ⊕ Int) :=
 (aG a1 s2).bind fun x3 =>
 (f6 (decide (x3 ≥ 65)) (aG a1 s2)).bind fun x4 =>
 (f6 (!(bif (decide (x3 ≥ 65)) then (decide (x4 <= 90)) else false)) (aG a1 s2)).bind fun x5 =>
 bif (bif (bif (decide (x3 ≥ 65)) then (decide (x4 <= 90)) else false) then true else (x5 == 95)) then
  some (.inl (IntKind.i64.wrap (s2 + 1)))
 else
  some (.inr s2)
def cN (a0 : aL) (a1 : aA) : Option (aA × Int) :=
 (aR (bN a1) 2 : Option Int).bind fun j1 =>
 (aG a1 0).bind fun x6 =>
 (f6 (!(x6 != 36)) (aG a1 1)).bind fun x7 =>
 bif (bif (bif (x6 != 36) then true else (x7 != 40)) then true else (j1 == 2)) then
  some (([] : aA), 0)
 else
  (slc a1 2 j1).bind fun x8 =>
  (aG a1 j1).bind fun x9 =>
  bif (x9 == 123) then
   (cA a1 (IntKind.i64.wrap (j1 + 1)) ([125, 41, 124, 39, 10, 13] : aA)).bind fun x10 =>
   (f6 (!(x10 == (IntKind.i64.wrap (j1 + 1)))) (aG a1 x10)).bind fun x11 =>
   bif (bif (x10 == (IntKind.i64.wrap (j1 + 1))) then true else (x11 != 125)) then
    some (([] : aA), 0)
   else
    (slc a1 (IntKind.i64.wrap (j1 + 1)) x10).bind fun x12 =>
    (aG a1 (IntKind.i64.wrap (x10 + 1))).bind fun x13 =>
    (f6 (x13 == 124) (aG a1 (IntKind.i64.wrap ((IntKind.i64.wrap (x10 + 1)) + 1)))).bind fun x14 =>
    bif (bif (x13 == 124) then (x14 == 39) else false) then
     (cA a1 (IntKind.i64.wrap ((IntKind.i64.wrap (x10 + 1)) + 2)) ([39] : aA)).bind fun x15 =>
     bif (x15 == (a1.length : Int)) then
      some (([] : aA), 0)
     else
      (slc a1 (IntKind.i64.wrap ((IntKind.i64.wrap (x10 + 1)) + 2)) x15).bind fun x16 =>
      (aG a1 (IntKind.i64.wrap (x15 + 1))).bind fun x17 =>
      bif (x17 != 41) then
       some (([] : aA), 0)
      else
       (bS a0 x8 x12).bind fun x18 =>
       bif x18.2 then
        some (x18.1, (IntKind.i64.wrap ((IntKind.i64.wrap (x15 + 1)) + 1)))
       else
        some (x16, (IntKind.i64.wrap ((IntKind.i64.wrap (x15 + 1)) + 1)))
    else
     (aG a1 (IntKind.i64.wrap (x10 + 1))).bind fun x19 =>
     bif (x19 == 124) then
      (cA a1 (IntKind.i64.wrap ((IntKind.i64.wrap (x10 + 1)) + 1)) ([39, 41, 124, 10, 13] : aA)).bind fun x20 =>
      (slc a1 (IntKind.i64.wrap ((IntKind.i64.wrap (x10 + 1)) + 1)) x20).bind fun x21 =>
      (aG a1 x20).bind fun x22 =>
      bif (x22 != 41) then
       some (([] : aA), 0)
      else
       (bS a0 x8 x12).bind fun x23 =>
       bif x23.2 then
        some (x23.1, (IntKind.i64.wrap (x20 + 1)))
       else
        some (x21, (IntKind.i64.wrap (x20 + 1)))
     else
      (aG a1 (IntKind.i64.wrap (x10 + 1))).bind fun x24 =>
      bif (x24 != 41) then
       some (([] : aA), 0)
      else
       (bS a0 x8 x12).bind fun x25 =>
       bif x25.2 then
        some (x25.1, (IntKind.i64.wrap ((IntKind.i64.wrap (x10 + 1)) + 1)))
       else
        some (([] : aA), (IntKind.i64.wrap ((IntKind.i64.wrap (x10 + 1)) + 1)))
  else
   (aG a1 j1).bind fun x26 =>
   (f6 (x26 == 124) (aG a1 (IntKind.i64.wrap (j1 + 1)))).bind fun x27 =>
   bif (bif (x26 == 124) then (x27 == 39) else false) then
    (cA a1 (IntKind.i64.wrap (j1 + 2)) ([39] : aA)).bind fun x28 =>
    bif (x28 == (a1.length : Int)) then
     some (([] : aA), 0)
    else
     (slc a1 (IntKind.i64.wrap (j1 + 2)) x28).bind fun x29 =>
     (aG a1 (IntKind.i64.wrap (x28 + 1))).bind fun x30 =>
     bif (x30 != 41) then
      some (([] : aA), 0)
     else
      (bS a0 x8 ([] : aA)).bind fun x31 =>
      bif x31.2 then
       some (x31.1, (IntKind.i64.wrap ((IntKind.i64.wrap (x28 + 1)) + 1)))
      else
       some (x29, (IntKind.i64.wrap ((IntKind.i64.wrap (x28 + 1)) + 1)))
   else
    (aG a1 j1).bind fun x32 =>
    bif (x32 == 124) then
     (cA a1 (IntKind.i64.wrap (j1 + 1)) ([39, 41, 124, 10, 13] : aA)).bind fun x33 =>
     (slc a1 (IntKind.i64.wrap (j1 + 1)) x33).bind fun x34 =>
     (aG a1 x33).bind fun x35 =>
     bif (x35 != 41) then
      some (([] : aA), 0)
     else
      (bS a0 x8 ([] : aA)).bind fun x36 =>
      bif x36.2 then
       some (x36.1, (IntKind.i64.wrap (x33 + 1)))
      else
       some (x34, (IntKind.i64.wrap (x33 + 1)))
    else
     (aG a1 j1).bind fun x37 =>
     bif (x37 != 41) then
      some (([] : aA), 0)
     else
      (bS a0 x8 ([] : aA)).bind fun x38 =>
      bif x38.2 then
       some (x38.1, (IntKind.i64.wrap (j1 + 1)))
      else
       some (([] : aA), (IntKind.i64.wrap (j1 + 1)))
def fI (a0 : Int) : Option Bool :=
 some (bif (decide (a0 ≥ 48)) then (decide (a0 <= 57)) else false)
def dF (a0 : aA) (s2 : Int) : Option (Int ⊕ Int) :=
 bif (decide (s2 < (a0.length : Int))) then
  (idx a0 s2).bind fun x3 =>
  bif ((x3.toNat : Int) == 39) then
   some (.inr (IntKind.i64.wrap (s2 + 1)))
  else
   some (.inl (IntKind.i64.wrap (s2 + 1)))
 else
  some (.inr 0)
def dG (a0 : aA) (s7 : Int) : Option (Int ⊕ Int) :=
 (gidx (decide (s7 < (a0.length : Int))) a0 s7).bind fun x8 =>
 (f6 (decide (s7 < (a0.length : Int))) (fI (x8.toNat : Int))).bind fun x9 =>
 bif (bif (decide (s7 < (a0.length : Int))) then x9 else false) then
  some (.inl (IntKind.i64.wrap (s7 + 1)))
 else
  some (.inr s7)
def iF (a0 : aA) : Option Int :=
 (idx a0 0).bind fun x1 =>
 bif ((x1.toNat : Int) == 39) then
  aR (dF a0) 1
 else
  (cN (aL.mk ([] : aA) ([] : aA) ([] : aA) ([] : aA) ([] : aA) ([] : aA)) a0).bind fun x4 =>
  bif (decide (x4.2 > 0)) then
   some x4.2
  else
   (fI (x1.toNat : Int)).bind fun x5 =>
   bif (bif x5 then true else ((x1.toNat : Int) == 45)) then
    (aR (dG a0) 1 : Option Int).bind fun j6 =>
    some j6
   else
    (gidx (decide ((a0.length : Int) > 1)) a0 1).bind fun x10 =>
    bif (bif (bif (decide ((a0.length : Int) > 1)) then ((x10.toNat : Int) == 61) else false) then (bif (bif (bif ((x1.toNat : Int) == 61) then true else ((x1.toNat : Int) == 33)) then true else ((x1.toNat : Int) == 60)) then true else ((x1.toNat : Int) == 62)) else false) then
     some 2
    else
     bif (bif (bif (bif (bif (bif (bif ((x1.toNat : Int) == 60) then true else ((x1.toNat : Int) == 62)) then true else ((x1.toNat : Int) == 33)) then true else ((x1.toNat : Int) == 38)) then true else ((x1.toNat : Int) == 124)) then true else ((x1.toNat : Int) == 40)) then true else ((x1.toNat : Int) == 41)) then
      some 1
     else
      some 0
def c9 (x : (aA × (List aA))) : Option ((aA × (List aA)) ⊕ ((List aA) × Bool)) :=
 match x with
 | (s1, s2) =>
  bif (!(s1 == ([] : aA))) then
   (idx s1 0).bind fun x3 =>
   (gW (x3.toNat : Int)).bind fun x4 =>
   bif x4 then
    (slc s1 1 (s1.length : Int)).bind fun x5 =>
    some (.inl (x5, s2))
   else
    (iF s1).bind fun x6 =>
    bif (x6 == 0) then
     some (.inr (s2, false))
    else
     (slc s1 0 x6).bind fun x7 =>
     (app 16 s2 ([x7] : List aA)).bind fun x8 =>
     (slc s1 x6 (s1.length : Int)).bind fun x9 =>
     some (.inl (x9, x8))
  else
   some (.inr (s2, true))
def gY (a0 : aA) : Option ((List aA) × Bool) :=
 aR c9 (a0, ([] : List aA))
def dH (a0 : (List aA)) (a1 : aA) (x : ((List (List aA)) × Int × Int × Int)) : Option (((List (List aA)) × Int × Int × Int) ⊕ ((List (List aA)) × Int)) :=
 match x with
 | (s2, s3, s4, s5) =>
  bif (decide (s5 < (a0.length : Int))) then
   (idx a0 s5).bind fun x6 =>
   bif (x6 == ([40] : aA)) then
    bif (x6 == ([41] : aA)) then
     bif (bif ((IntKind.i64.wrap ((IntKind.i64.wrap (s4 + 1)) - 1)) == 0) then (x6 == a1) else false) then
      (slc a0 s3 s5).bind fun x7 =>
      (app 24 s2 ([x7] : List (List aA))).bind fun x8 =>
      some (.inl (x8, (IntKind.i64.wrap (s5 + 1)), (IntKind.i64.wrap ((IntKind.i64.wrap (s4 + 1)) - 1)), (IntKind.i64.wrap (s5 + 1))))
     else
      some (.inl (s2, s3, (IntKind.i64.wrap ((IntKind.i64.wrap (s4 + 1)) - 1)), (IntKind.i64.wrap (s5 + 1))))
    else
     bif (bif ((IntKind.i64.wrap (s4 + 1)) == 0) then (x6 == a1) else false) then
      (slc a0 s3 s5).bind fun x9 =>
      (app 24 s2 ([x9] : List (List aA))).bind fun x10 =>
      some (.inl (x10, (IntKind.i64.wrap (s5 + 1)), (IntKind.i64.wrap (s4 + 1)), (IntKind.i64.wrap (s5 + 1))))
     else
      some (.inl (s2, s3, (IntKind.i64.wrap (s4 + 1)), (IntKind.i64.wrap (s5 + 1))))
   else
    bif (x6 == ([41] : aA)) then
     bif (bif ((IntKind.i64.wrap (s4 - 1)) == 0) then (x6 == a1) else false) then
      (slc a0 s3 s5).bind fun x11 =>
      (app 24 s2 ([x11] : List (List aA))).bind fun x12 =>
      some (.inl (x12, (IntKind.i64.wrap (s5 + 1)), (IntKind.i64.wrap (s4 - 1)), (IntKind.i64.wrap (s5 + 1))))
     else
      some (.inl (s2, s3, (IntKind.i64.wrap (s4 - 1)), (IntKind.i64.wrap (s5 + 1))))
    else
     bif (bif (s4 == 0) then (x6 == a1) else false) then
      (slc a0 s3 s5).bind fun x13 =>
      (app 24 s2 ([x13] : List (List aA))).bind fun x14 =>
      some (.inl (x14, (IntKind.i64.wrap (s5 + 1)), s4, (IntKind.i64.wrap (s5 + 1))))
     else
      some (.inl (s2, s3, s4, (IntKind.i64.wrap (s5 + 1))))
  else
   some (.inr (s2, s3))
def iG (a0 : (List aA)) (a1 : aA) : Option (List (List aA)) :=
 (aR (dH a0 a1) (([] : List (List aA)), 0, 0, 0) : Option ((List (List aA)) × Int)).bind fun j1 =>
 (slc a0 j1.2 (a0.length : Int)).bind fun x15 =>
 (app 24 j1.1 ([x15] : List (List aA))).bind fun x16 =>
 some x16
def cU (a0 : (List aA)) (x : (Int × Int)) : Option ((Int × Int) ⊕ Bool) :=
 match x with
 | (s1, s2) =>
  bif (decide (s2 < (a0.length : Int))) then
   (idx a0 s2).bind fun x3 =>
   bif (x3 == ([40] : aA)) then
    bif (x3 == ([41] : aA)) then
     bif ((IntKind.i64.wrap ((IntKind.i64.wrap (s1 + 1)) - 1)) == 0) then
      some (.inr (s2 == (IntKind.i64.wrap ((a0.length : Int) - 1))))
     else
      some (.inl ((IntKind.i64.wrap ((IntKind.i64.wrap (s1 + 1)) - 1)), (IntKind.i64.wrap (s2 + 1))))
    else
     bif ((IntKind.i64.wrap (s1 + 1)) == 0) then
      some (.inr (s2 == (IntKind.i64.wrap ((a0.length : Int) - 1))))
     else
      some (.inl ((IntKind.i64.wrap (s1 + 1)), (IntKind.i64.wrap (s2 + 1))))
   else
    bif (x3 == ([41] : aA)) then
     bif ((IntKind.i64.wrap (s1 - 1)) == 0) then
      some (.inr (s2 == (IntKind.i64.wrap ((a0.length : Int) - 1))))
     else
      some (.inl ((IntKind.i64.wrap (s1 - 1)), (IntKind.i64.wrap (s2 + 1))))
    else
     bif (s1 == 0) then
      some (.inr (s2 == (IntKind.i64.wrap ((a0.length : Int) - 1))))
     else
      some (.inl (s1, (IntKind.i64.wrap (s2 + 1))))
  else
   some (.inr false)
def gF (a0 : (List aA)) : Option Bool :=
 aR (cU a0) (0, 0)
def eF (a0 : Int) : Option Int :=
 bif (bif (decide (a0 ≥ 48)) then (decide (a0 <= 57)) else false) then
  some (IntKind.u64.wrap (IntKind.u8.wrap (a0 - 48)))
 else
  bif (bif (decide (a0 ≥ 97)) then (decide (a0 <= 102)) else false) then
   some (IntKind.u64.wrap ((IntKind.u64.wrap (IntKind.u8.wrap (a0 - 97))) + 10))
  else
   bif (bif (decide (a0 ≥ 65)) then (decide (a0 <= 70)) else false) then
    some (IntKind.u64.wrap ((IntKind.u64.wrap (IntKind.u8.wrap (a0 - 65))) + 10))
   else
    some 99
def dI (a0 : aA) (a1 : Int) (x : (Int × Int)) : Option ((Int × Int) ⊕ (Int ⊕ (Int × Int))) :=
 match x with
 | (s4, s5) =>
  bif (decide (s5 < (a0.length : Int))) then
   (idx a0 s5).bind fun x6 =>
   (eF (x6.toNat : Int)).bind fun x7 =>
   bif (decide ((IntKind.u64.wrap ((IntKind.u64.wrap (a1 * s4)) + x7)) > 1099511627776)) then
    some (.inr (.inr (0, 2)))
   else
    some (.inl ((IntKind.u64.wrap ((IntKind.u64.wrap (a1 * s4)) + x7)), (IntKind.i64.wrap (s5 + 1))))
  else
   some (.inr (.inr (s4, 0)))
def cH (a0 : aA) (a1 : Int) (s1 : Int) : Option (Int ⊕ (Int × Int)) :=
 bif (decide (s1 < (a0.length : Int))) then
  (idx a0 s1).bind fun x2 =>
  (eF (x2.toNat : Int)).bind fun x3 =>
  bif (decide (x3 ≥ a1)) then
   some (.inr (0, 10))
  else
   some (.inl (IntKind.i64.wrap (s1 + 1)))
 else
  aR (dI a0 a1) (0, 0)
def f7 (a0 : aA) (a1 : Int) : Option (Int × Int) :=
 bif (a0 == ([] : aA)) then
  some (0, 10)
 else
  aR (cH a0 a1) 0
def gG (a0 : aA) : Option (Int × Int) :=
 (gidx (decide ((a0.length : Int) > 0)) a0 0).bind fun x1 =>
 bif (bif (decide ((a0.length : Int) > 0)) then ((x1.toNat : Int) == 45) else false) then
  (slc a0 1 (a0.length : Int)).bind fun x2 =>
  (f7 x2 10).bind fun x3 =>
  some ((IntKind.i64.wrap (0 - (IntKind.i64.wrap x3.1))), x3.2)
 else
  (f7 a0 10).bind fun x4 =>
  some ((IntKind.i64.wrap x4.1), x4.2)
def cQ (a0 : aA) : Option aB :=
 (idx a0 0).bind fun x1 =>
 bif ((x1.toNat : Int) == 39) then
  (slc a0 1 (IntKind.i64.wrap ((a0.length : Int) - 1))).bind fun x2 =>
  some (aB.mk 2 0 x2 ([] : aA) ([] : List aB))
 else
  (cN (aL.mk ([] : aA) ([] : aA) ([] : aA) ([] : aA) ([] : aA) ([] : aA)) a0).bind fun x3 =>
  bif (decide (x3.2 > 0)) then
   some (aB.mk 3 0 a0 ([] : aA) ([] : List aB))
  else
   (gG a0).bind fun x4 =>
   bif (x4.2 == 0) then
    some (aB.mk 1 x4.1 ([] : aA) ([] : aA) ([] : List aB))
   else
    some (aB.mk 0 0 ([] : aA) ([] : aA) ([] : List aB))
def dZ (a0 : aA) : Option Bool :=
 some (bif (bif (bif (bif (bif (a0 == ([61, 61] : aA)) then true else (a0 == ([33, 61] : aA))) then true else (a0 == ([60, 61] : aA))) then true else (a0 == ([62, 61] : aA))) then true else (a0 == ([60] : aA))) then true else (a0 == ([62] : aA)))
def fW (aNq : (List aA) -> Option aB) (aNE : (List aA) -> Option aB) (a0 : (List aA)) : Option aB :=
 bif ((a0.length : Int) == 0) then
  some (aB.mk 0 0 ([] : aA) ([] : aA) ([] : List aB))
 else
  (idx a0 0).bind fun x1 =>
  bif (x1 == ([33] : aA)) then
   (slc a0 1 (a0.length : Int)).bind fun x2 =>
   (aNE x2).bind fun x3 =>
   bif (x3.Kind == 0) then
    some x3
   else
    some (aB.mk 4 0 ([] : aA) ([] : aA) ([x3] : List aB))
  else
   (idx a0 0).bind fun x4 =>
   bif (x4 == ([40] : aA)) then
    (f6 (decide ((a0.length : Int) > 2)) (gF a0)).bind fun x5 =>
    bif (bif (decide ((a0.length : Int) > 2)) then x5 else false) then
     (slc a0 1 (IntKind.i64.wrap ((a0.length : Int) - 1))).bind fun x6 =>
     (aNq x6).bind fun x7 =>
     some x7
    else
     some (aB.mk 0 0 ([] : aA) ([] : aA) ([] : List aB))
   else
    bif ((a0.length : Int) == 1) then
     (idx a0 0).bind fun x8 =>
     (cQ x8).bind fun x9 =>
     some x9
    else
     (gidx (!((a0.length : Int) != 3)) a0 1).bind fun x10 =>
     (f6 (!((a0.length : Int) != 3)) (dZ x10)).bind fun x11 =>
     bif (bif ((a0.length : Int) != 3) then true else (!x11)) then
      some (aB.mk 0 0 ([] : aA) ([] : aA) ([] : List aB))
     else
      (idx a0 0).bind fun x12 =>
      (cQ x12).bind fun x13 =>
      (idx a0 2).bind fun x14 =>
      (cQ x14).bind fun x15 =>
      bif (bif (x13.Kind == 0) then true else (x15.Kind == 0)) then
       some (aB.mk 0 0 ([] : aA) ([] : aA) ([] : List aB))
      else
       (idx a0 1).bind fun x16 =>
       some (aB.mk 7 0 ([] : aA) x16 ([x13, x15] : List aB))
def dJ (aNq : (List aA) -> Option aB) : Nat -> (List aA) -> Option aB
 | 0 => fun _ => none
 | n + 1 => fW aNq (dJ aNq n)
def oN (aNq : (List aA) -> Option aB) (a0 : (List aA)) : Option aB := dJ aNq 1000000 a0
def dA (aNq : (List aA) -> Option aB) (aNx : (List aA) -> aA -> Int -> Option aB) (a1 : aA) (x1 : (List (List aA))) (x : (Int × aB)) : Option ((Int × aB) ⊕ aB) :=
 match x with
 | (s2, s3) =>
  bif (decide (s2 < (x1.length : Int))) then
   (idx x1 s2).bind fun x4 =>
   bif (a1 == ([124] : aA)) then
    (aNx x4 ([38] : aA) 5).bind fun x5 =>
    bif (x5.Kind == 0) then
     some (.inr x5)
    else
     (app 72 s3.Kids ([x5] : List aB)).bind fun x6 =>
     some (.inl ((IntKind.i64.wrap (s2 + 1)), (aB.mk s3.Kind s3.N s3.Text s3.Sign x6)))
   else
    (oN aNq x4).bind fun x7 =>
    bif (x7.Kind == 0) then
     some (.inr x7)
    else
     (app 72 s3.Kids ([x7] : List aB)).bind fun x8 =>
     some (.inl ((IntKind.i64.wrap (s2 + 1)), (aB.mk s3.Kind s3.N s3.Text s3.Sign x8)))
  else
   bif ((x1.length : Int) == 1) then
    (idx s3.Kids 0).bind fun x9 =>
    some (.inr x9)
   else
    some (.inr s3)
def dK (aNq : (List aA) -> Option aB) (aNx : (List aA) -> aA -> Int -> Option aB) (a0 : (List aA)) (a1 : aA) (a2 : Int) : Option aB :=
 (iG a0 a1).bind fun x1 =>
 aR (dA aNq aNx a1 x1) (0, (aB.mk a2 0 ([] : aA) ([] : aA) ([] : List aB)))
def dL (aNq : (List aA) -> Option aB) : Nat -> (List aA) -> aA -> Int -> Option aB
 | 0 => fun _ _ _ => none
 | n + 1 => dK aNq (dL aNq n)
def oO (aNq : (List aA) -> Option aB) (a0 : (List aA)) (a1 : aA) (a2 : Int) : Option aB := dL aNq 1000000 a0 a1 a2
def fX (aNq : (List aA) -> Option aB) (a0 : (List aA)) : Option aB :=
 (oO aNq a0 ([124] : aA) 6).bind fun x1 =>
 some x1
def bA : Nat -> (List aA) -> Option aB
 | 0 => fun _ => none
 | n + 1 => fX (bA n)
def lR (a0 : (List aA)) : Option aB := bA 1000000 a0
def dM (a1 : Int) (x5 : aB) (x : ((List aB) × Int)) : Option (((List aB) × Int) ⊕ (List aB)) :=
 match x with
 | (s6, s7) =>
  bif (decide (s7 < (x5.Kids.length : Int))) then
   (idx x5.Kids s7).bind fun x8 =>
   bif (decide ((s6.length : Int) <= a1)) then
    (app 72 s6 ([x8] : List aB)).bind fun x9 =>
    some (.inl (x9, (IntKind.i64.wrap (s7 + 1))))
   else
    some (.inl (s6, (IntKind.i64.wrap (s7 + 1))))
  else
   some (.inr s6)
def bO (a1 : Int) (x : ((List aB) × Int)) : Option (((List aB) × Int) ⊕ (List aB)) :=
 match x with
 | (s2, s3) =>
  bif (bif (decide (s3 < (s2.length : Int))) then (decide ((s2.length : Int) <= a1)) else false) then
   ((idx s2 s3).bind fun x5 =>
   aR (dM a1 x5) (s2, 0) : Option (List aB)).bind fun j4 =>
   some (.inl (j4, (IntKind.i64.wrap (s3 + 1))))
  else
   some (.inr s2)
def d4 (a0 : aB) (a1 : Int) : Option Int :=
 (aR (bO a1) (([a0] : List aB), 0) : Option (List aB)).bind fun j1 =>
 some (j1.length : Int)
def bG (a0 : aB) : Option Bool :=
 some (bif (a0.Kind == 5) then true else (a0.Kind == 6))
def dN (aNy : aB -> Option Int) (a0 : aB) (x : (Int × Int)) : Option ((Int × Int) ⊕ Int) :=
 match x with
 | (s2, s3) =>
  bif (decide (s3 < (a0.Kids.length : Int))) then
   (idx a0.Kids s3).bind fun x4 =>
   (aNy x4).bind fun x5 =>
   (bG x4).bind fun x6 =>
   bif x6 then
    bif (a0.Kind == 4) then
     bif (decide ((IntKind.i64.wrap ((IntKind.i64.wrap (x5 + 1)) + 1)) > s2)) then
      some (.inl ((IntKind.i64.wrap ((IntKind.i64.wrap (x5 + 1)) + 1)), (IntKind.i64.wrap (s3 + 1))))
     else
      some (.inl (s2, (IntKind.i64.wrap (s3 + 1))))
    else
     bif (decide ((IntKind.i64.wrap (x5 + 1)) > s2)) then
      some (.inl ((IntKind.i64.wrap (x5 + 1)), (IntKind.i64.wrap (s3 + 1))))
     else
      some (.inl (s2, (IntKind.i64.wrap (s3 + 1))))
   else
    bif (a0.Kind == 4) then
     bif (decide ((IntKind.i64.wrap (x5 + 1)) > s2)) then
      some (.inl ((IntKind.i64.wrap (x5 + 1)), (IntKind.i64.wrap (s3 + 1))))
     else
      some (.inl (s2, (IntKind.i64.wrap (s3 + 1))))
    else
     bif (decide (x5 > s2)) then
      some (.inl (x5, (IntKind.i64.wrap (s3 + 1))))
     else
      some (.inl (s2, (IntKind.i64.wrap (s3 + 1))))
  else
   some (.inr s2)
def gH (aNy : aB -> Option Int) (a0 : aB) : Option Int :=
 (aR (dN aNy a0) (0, 0) : Option Int).bind fun j1 =>
 some j1
def c4 : Nat -> aB -> Option Int
 | 0 => fun _ => none
 | n + 1 => gH (c4 n)
def jW (a0 : aB) : Option Int := c4 1000000 a0
def gZ (a0 : aA) : Option (aB × Int) :=
 bif (decide ((a0.length : Int) > 400)) then
  some ((aB.mk 0 0 ([] : aA) ([] : aA) ([] : List aB)), 2)
 else
  (gY a0).bind fun x1 =>
  (lR x1.1).bind fun x2 =>
  bif (bif (!x1.2) then true else (x2.Kind == 0)) then
   some ((aB.mk 0 0 ([] : aA) ([] : aA) ([] : List aB)), 50)
  else
   (d4 x2 60).bind fun x3 =>
   bif (decide (x3 > 60)) then
    some ((aB.mk 0 0 ([] : aA) ([] : aA) ([] : List aB)), 4)
   else
    (jW x2).bind fun x4 =>
    bif (decide (x4 > 16)) then
     some ((aB.mk 0 0 ([] : aA) ([] : aA) ([] : List aB)), 5)
    else
     some (x2, 0)
def jA (a1 : Int) (s2 : aA) : Option (aA ⊕ aA) :=
 (gidx (decide ((s2.length : Int) > 0)) s2 0).bind fun x3 =>
 bif (bif (decide ((s2.length : Int) > 0)) then ((x3.toNat : Int) == a1) else false) then
  (slc s2 1 (s2.length : Int)).bind fun x4 =>
  some (.inl x4)
 else
  some (.inr s2)
def iS (a0 : aA) (a1 : Int) : Option aA :=
 (aR (jA a1) a0 : Option aA).bind fun j1 =>
 some j1
def jB (a0 : aA) (x : (Int × (List Bool))) : Option ((Int × (List Bool)) ⊕ ((List Bool) × Bool)) :=
 match x with
 | (s1, s2) =>
  bif (decide (s1 < (a0.length : Int))) then
   (idx a0 s1).bind fun x3 =>
   bif (decide ((x3.toNat : Int) ≥ 128)) then
    chk (s2.length = 256) <|
    chk (s2.length = 256 /\ s2.length = 256) <|
    chk (s2.length = 256) (some (.inr (s2, false)))
   else
    chk (0 <= (x3.toNat : Int) /\ (x3.toNat : Int) < 256) <|
    (seti s2 (x3.toNat : Int) true).bind fun x7 =>
    some (.inl ((IntKind.i64.wrap (s1 + 1)), x7))
  else
   chk (s2.length = 256) <|
   chk (s2.length = 256 /\ s2.length = 256) <|
   chk (s2.length = 256) (some (.inr (s2, true)))
def bH (a0 : aA) : Option ((List Bool) × Bool) :=
 aR (jB a0) (0, (List.replicate 256 false))
def bX (a0 : (List Bool)) (a1 : Int) : Option Bool :=
 chk (0 <= a1 /\ a1 < 256) <|
 (idx a0 a1).bind fun x2 =>
 some x2
def eL (a1 : (List Bool)) (s2 : aA) : Option (aA ⊕ aA) :=
 bif (decide ((s2.length : Int) > 0)) then
  (idx s2 0).bind fun x3 =>
  (bX a1 (x3.toNat : Int)).bind fun x4 =>
  bif (!x4) then
   some (.inr s2)
  else
   (slc s2 1 (s2.length : Int)).bind fun x5 =>
   some (.inl x5)
 else
  some (.inr s2)
def cR (a0 : aA) (a1 : (List Bool)) : Option aA :=
 (aR (eL a1) a0 : Option aA).bind fun j1 =>
 some j1
def eG (a0 : aA) : Option (Int × Int) :=
 bif (decide ((a0.length : Int) < 1)) then
  some (65533, 0)
 else
  (idx a0 0).bind fun x1 =>
  none
def cO (a0 : aA) : Option (Int × Int) :=
 (gidx (!(a0 == ([] : aA))) a0 0).bind fun x1 =>
 bif (bif (!(a0 == ([] : aA))) then (decide ((x1.toNat : Int) < 128)) else false) then
  (idx a0 0).bind fun x2 =>
  some ((IntKind.i32.wrap (x2.toNat : Int)), 1)
 else
  (eG a0).bind fun x3 =>
  some (x3.1, x3.2)
def j9 (a0 : aA) (a1 : Int) : Option Int :=
 (i8 a0 a1).bind fun x1 =>
 some x1
def fJ (a0 : aA) (a1 : Int) : Option Int :=
 (j9 a0 a1).bind fun x1 =>
 some x1
def jR (a0 : Int) : Option Bool :=
 bif (bif (decide (0 <= a0)) then (decide (a0 < 55296)) else false) then
  some true
 else
  bif (bif (decide (57343 < a0)) then (decide (a0 <= 1114111)) else false) then
   some true
  else
   some false
def kZ (a0 : aA) (s2 : Nat) : Option (Nat ⊕ Int) :=
 bif (decide (s2 < a0.length)) then
  bif (((zW a0 s2 : Nat) : Int) == 65533) then
   some (.inr ((s2 : Nat) : Int))
  else
   some (.inl (s2 + wV a0 s2))
 else
  some (.inr (-1))
def k8 (a0 : aA) (a1 : Int) (s4 : Int) (x9 : Int) (s10 : Int) : Option (Int ⊕ (Int ⊕ Int)) :=
 bif (decide (s10 < ((encB a1).length : Int))) then
  (idx a0 (IntKind.i64.wrap ((IntKind.i64.wrap (s4 + (IntKind.i64.wrap (x9 + 1)))) - s10))).bind fun x11 =>
  (idx (encB a1) (IntKind.i64.wrap ((IntKind.i64.wrap (((encB a1).length : Int) - 1)) - s10))).bind fun x12 =>
  bif ((x11.toNat : Int) != (x12.toNat : Int)) then
   none
  else
   some (.inl (IntKind.i64.wrap (s10 + 1)))
 else
  some (.inr (.inr (IntKind.i64.wrap ((IntKind.i64.wrap (s4 + (IntKind.i64.wrap (x9 + 1)))) - (IntKind.i64.wrap (((encB a1).length : Int) - 1))))))
def k9 (a0 : aA) (a1 : Int) (s4 : Int) (s13 : Int) : Option (Int ⊕ (Int ⊕ Int)) :=
 bif (decide (s13 < ((encB a1).length : Int))) then
  (idx a0 (IntKind.i64.wrap (s4 - s13))).bind fun x14 =>
  (idx (encB a1) (IntKind.i64.wrap ((IntKind.i64.wrap (((encB a1).length : Int) - 1)) - s13))).bind fun x15 =>
  bif ((x14.toNat : Int) != (x15.toNat : Int)) then
   none
  else
   some (.inl (IntKind.i64.wrap (s13 + 1)))
 else
  some (.inr (.inr (IntKind.i64.wrap (s4 - (IntKind.i64.wrap (((encB a1).length : Int) - 1))))))
def lA (a0 : aA) (a1 : Int) (s4 : Int) : Option (Int ⊕ Int) :=
 bif (decide (s4 < (a0.length : Int))) then
  (idx a0 s4).bind fun x5 =>
  (idx (encB a1) (IntKind.i64.wrap (((encB a1).length : Int) - 1))).bind fun x6 =>
  bif ((x5.toNat : Int) != (x6.toNat : Int)) then
   (slc a0 (IntKind.i64.wrap (s4 + 1)) (a0.length : Int)).bind fun x7 =>
   (idx (encB a1) (IntKind.i64.wrap (((encB a1).length : Int) - 1))).bind fun x8 =>
   (fJ x7 (x8.toNat : Int)).bind fun x9 =>
   bif (decide (x9 < 0)) then
    some (.inr (-1))
   else
    aR (k8 a0 a1 s4 x9) 1
  else
   aR (k9 a0 a1 s4) 1
 else
  some (.inr (-1))
def mX (a0 : aA) (a1 : Int) : Option Int :=
 bif (bif (decide (0 <= a1)) then (decide (a1 < 128)) else false) then
  (fJ a0 (IntKind.u8.wrap a1)).bind fun x1 =>
  some x1
 else
  bif (a1 == 65533) then
   aR (kZ a0) 0
  else
   (jR a1).bind fun x3 =>
   bif (!x3) then
    some (-1)
   else
    aR (lA a0 a1) (IntKind.i64.wrap (((encB a1).length : Int) - 1))
def gI (a0 : aA) (a1 : Int) : Option Bool :=
 (mX a0 a1).bind fun x1 =>
 some (decide (x1 ≥ 0))
def iA (a1 : aA) (s2 : aA) : Option (aA ⊕ aA) :=
 bif (decide ((s2.length : Int) > 0)) then
  (cO s2).bind fun x3 =>
  (gI a1 x3.1).bind fun x4 =>
  bif (!x4) then
   some (.inr s2)
  else
   (slc s2 x3.2 (s2.length : Int)).bind fun x5 =>
   some (.inl x5)
 else
  some (.inr s2)
def gN (a0 : aA) (a1 : aA) : Option aA :=
 (aR (iA a1) a0 : Option aA).bind fun j1 =>
 some j1
def cL (a0 : aA) (a1 : aA) : Option aA :=
 bif (bif (a0 == ([] : aA)) then true else (a1 == ([] : aA))) then
  some a0
 else
  (gidx ((a1.length : Int) == 1) a1 0).bind fun x1 =>
  bif (bif ((a1.length : Int) == 1) then (decide ((x1.toNat : Int) < 128)) else false) then
   (idx a1 0).bind fun x2 =>
   (iS a0 (x2.toNat : Int)).bind fun x3 =>
   some x3
  else
   (bH a1).bind fun x4 =>
   chk (x4.1.length = 256) <|
   chk (0 < x4.1.length) <|
   bif x4.2 then
    (cR a0 x4.1).bind fun x6 =>
    some x6
   else
    (gN a0 a1).bind fun x7 =>
    some x7
def eP (o0 : aC) : Option (Unit × aC) :=
 (cL o0.s ([32, 9, 10, 13] : aA)).bind fun x1 =>
 some ((), (aC.mk x1 o0.bad))
def bY (a0 : aA) (a1 : aA) : Option Bool :=
 (gslc (decide ((a0.length : Int) ≥ (a1.length : Int))) a0 0 (a1.length : Int)).bind fun x1 =>
 some (bif (decide ((a0.length : Int) ≥ (a1.length : Int))) then (x1 == a1) else false)
def iH (a0 : aA) (a1 : aA) : Option (aA × Bool) :=
 (bY a0 a1).bind fun x1 =>
 bif (!x1) then
  some (a0, false)
 else
  (slc a0 (a1.length : Int) (a0.length : Int)).bind fun x2 =>
  some (x2, true)
def dT (a0 : aA) (a1 : aA) : Option (aA × Bool) :=
 (iH a0 a1).bind fun x1 =>
 some (x1.1, x1.2)
def a8 (o0 : aC) (a1 : aA) : Option (Bool × aC) :=
 (eP o0).bind fun x1 =>
 (dT x1.2.s a1).bind fun x2 =>
 some (x2.2, (aC.mk x2.1 x1.2.bad))
def iB (o0 : aC) : Option (aB × aC) :=
 some ((aB.mk 0 0 ([] : aA) ([] : aA) ([] : List aB)), (aC.mk ([] : aA) true))
def kA (a0 : aA) (a1 : aA) : Option (aA × aA × Bool) :=
 (gT a0 a1).bind fun x1 =>
 bif (decide (x1 ≥ 0)) then
  (slc a0 0 x1).bind fun x2 =>
  (slc a0 (IntKind.i64.wrap (x1 + (a1.length : Int))) (a0.length : Int)).bind fun x3 =>
  some (x2, x3, true)
 else
  some (a0, ([] : aA), false)
def dO (a0 : aA) (a1 : aA) : Option (aA × aA × Bool) :=
 (kA a0 a1).bind fun x1 =>
 some (x1.1, x1.2.1, x1.2.2)
def mY (a0 : aA) (a1i : Int -> Option Bool) (s2 : Int) : Option (Int ⊕ Int) :=
 (gidx (decide (s2 < (a0.length : Int))) a0 s2).bind fun x3 =>
 (f6 (decide (s2 < (a0.length : Int))) (a1i (x3.toNat : Int))).bind fun x4 =>
 bif (bif (decide (s2 < (a0.length : Int))) then x4 else false) then
  some (.inl (IntKind.i64.wrap (s2 + 1)))
 else
  some (.inr s2)
def kK (a0 : aA) (a1i : Int -> Option Bool) : Option Int :=
 (aR (mY a0 a1i) 0 : Option Int).bind fun j1 =>
 some j1
def lS (a0 : Int) : Option Bool :=
 some (bif (bif (decide (a0 ≥ 65)) then (decide (a0 <= 90)) else false) then true else (a0 == 95))
def eX : Option (aA × Int) :=
 some (([] : aA), 0)
def aP (a0 : aA) (a1 : aA) : Option Bool :=
 (bY a0 a1).bind fun x1 =>
 some x1
def qS (a0 : aA) : Option aA :=
 some a0
def f9 (a0 : Int) (c0 : aA) : Option Bool :=
 (fJ c0 a0).bind fun x1 =>
 some (decide (x1 < 0))
def vK (a0 : aA) : Option aA :=
 some a0
def lB (a0 : aA) (a1k0 : aL) : Option (aA × aL) :=
 some (a0, a1k0)
def lC (a0 : aA) (a1k0 : aL) : Option (aA × aL) :=
 some (a0, a1k0)
def lD (a0 : aA) (a1k0 : aL) : Option (aA × aL) :=
 some (a0, a1k0)
def lE (a0 : aA) (a1k0 : aL) : Option (aA × aL) :=
 some (a0, a1k0)
def tB (a0 : aL) : Option (aA × aA × (aA × aL) × (aA × aL) × (aA × aL) × (aA × aL)) :=
 (vK a0.Host).bind fun x1 =>
 (vK a0.Referer).bind fun x2 =>
 (lB a0.Agent a0).bind fun x3 =>
 (lC a0.Cookie a0).bind fun x4 =>
 (lD a0.Query a0).bind fun x5 =>
 (lE a0.Language a0).bind fun x6 =>
 some (x1, x2, (x3.1, x3.2), (x4.1, x4.2), (x5.1, x5.2), (x6.1, x6.2))
def sD (a0 : aA) : Option (aA × Bool) :=
 some (a0, (!(a0 == ([] : aA))))
def mZ (a0 : aA) (c0 : aA) : Option (aA × Bool) :=
 bif (!(a0 == ([] : aA))) then
  some (([] : aA), false)
 else
  (sD c0).bind fun x1 =>
  some (x1.1, x1.2)
def iI (a0 : aA) (c0 : aA) (c1i : aA -> Option (aA × Bool)) : Option (aA × Bool) :=
 bif (a0 == ([] : aA)) then
  (sD c0).bind fun x1 =>
  some (x1.1, x1.2)
 else
  (c1i a0).bind fun x2 =>
  some (x2.1, x2.2)
def bT (a0 : aA) (a1 : aA) : Option Bool :=
 (strings_Index a0 a1).bind fun x1 =>
 some (decide (x1 ≥ 0))
def iQ (a0 : aA) (x : (aA × aA × Int)) : Option ((aA × aA × Int) ⊕ (aA × aA)) :=
 match x with
 | (s2, s3, s4) =>
  bif (decide (s4 < (([(bW.mk ([77, 83, 73, 69] : aA) ([77, 83, 73, 69] : aA) ([77, 83, 73, 69, 32] : aA)), (bW.mk ([77, 111, 122, 105, 108, 108, 97] : aA) ([77, 79, 90, 73, 76, 76, 65] : aA) ([77, 111, 122, 105, 108, 108, 97, 47] : aA))] : List bW).length : Int))) then
   (idx ([(bW.mk ([77, 83, 73, 69] : aA) ([77, 83, 73, 69] : aA) ([77, 83, 73, 69, 32] : aA)), (bW.mk ([77, 111, 122, 105, 108, 108, 97] : aA) ([77, 79, 90, 73, 76, 76, 65] : aA) ([77, 111, 122, 105, 108, 108, 97, 47] : aA))] : List bW) s4).bind fun x5 =>
   (bT a0 x5.e0).bind fun x6 =>
   bif (!x6) then
    some (.inl (s2, s3, (IntKind.i64.wrap (s4 + 1))))
   else
    (dO a0 x5.e2).bind fun x7 =>
    (cL x7.2.1 ([48, 49, 50, 51, 52, 53, 54, 55, 56, 57, 46] : aA)).bind fun x8 =>
    (slc x7.2.1 0 (IntKind.i64.wrap ((x7.2.1.length : Int) - (x8.length : Int)))).bind fun x9 =>
    some (.inr (x5.e1, x9))
  else
   some (.inr (s2, s3))
def gR (a0 : aA) (x : (aA × Int)) : Option ((aA × Int) ⊕ aA) :=
 match x with
 | (s11, s12) =>
  bif (decide (s12 < (([(bD.mk ([87, 105, 110, 100, 111, 119, 115] : aA) ([87, 73, 78] : aA)), (bD.mk ([77, 97, 99] : aA) ([77, 65, 67] : aA)), (bD.mk ([88, 49, 49] : aA) ([85, 78, 73, 88] : aA))] : List bD).length : Int))) then
   (idx ([(bD.mk ([87, 105, 110, 100, 111, 119, 115] : aA) ([87, 73, 78] : aA)), (bD.mk ([77, 97, 99] : aA) ([77, 65, 67] : aA)), (bD.mk ([88, 49, 49] : aA) ([85, 78, 73, 88] : aA))] : List bD) s12).bind fun x13 =>
   (bT a0 x13.e0).bind fun x14 =>
   bif x14 then
    some (.inr x13.e1)
   else
    some (.inl (s11, (IntKind.i64.wrap (s12 + 1))))
  else
   some (.inr s11)
def oP (a0 : aA) : Option (aA × aA × aA) :=
 (aR (iQ a0) (([79, 84, 72, 69, 82] : aA), ([] : aA), 0) : Option (aA × aA)).bind fun j1 =>
 (aR (gR a0) (([79, 84, 72, 69, 82] : aA), 0) : Option aA).bind fun j10 =>
 some (j1.1, j1.2, j10)
def nD (a0 : aA) (c0 : aL) : Option (aA × Bool) :=
 (oP c0.Agent).bind fun x1 =>
 (sD (mget ([] : aA) (mins (mins (mins ([] : List (aA × aA)) ([98, 114, 111, 119, 115, 101, 114] : aA) x1.1) ([118, 101, 114, 115, 105, 111, 110] : aA) x1.2.1) ([111, 115] : aA) x1.2.2) a0)).bind fun x2 =>
 some (x2.1, x2.2)
def iV (a1 : Int) (s2 : aA) : Option (aA ⊕ aA) :=
 (gidx (decide ((s2.length : Int) > 0)) s2 (IntKind.i64.wrap ((s2.length : Int) - 1))).bind fun x3 =>
 bif (bif (decide ((s2.length : Int) > 0)) then ((x3.toNat : Int) == a1) else false) then
  (slc s2 0 (IntKind.i64.wrap ((s2.length : Int) - 1))).bind fun x4 =>
  some (.inl x4)
 else
  some (.inr s2)
def kB (a0 : aA) (a1 : Int) : Option aA :=
 (aR (iV a1) a0 : Option aA).bind fun j1 =>
 some j1
def fS (a1 : (List Bool)) (s2 : aA) : Option (aA ⊕ aA) :=
 bif (decide ((s2.length : Int) > 0)) then
  (idx s2 (IntKind.i64.wrap ((s2.length : Int) - 1))).bind fun x3 =>
  (bX a1 (x3.toNat : Int)).bind fun x4 =>
  bif (!x4) then
   some (.inr s2)
  else
   (slc s2 0 (IntKind.i64.wrap ((s2.length : Int) - 1))).bind fun x5 =>
   some (.inl x5)
 else
  some (.inr s2)
def fA (a0 : aA) (a1 : (List Bool)) : Option aA :=
 (aR (fS a1) a0 : Option aA).bind fun j1 =>
 some j1
def jS (a0 : Int) : Option Bool :=
 some ((bits .and .u8 a0 192) != 128)
def dU (a0 : aA) (s3 : Int) : Option (Int ⊕ Int) :=
 bif (decide (s3 ≥ (imax (IntKind.i64.wrap ((a0.length : Int) - 4)) 0))) then
  (idx a0 s3).bind fun x4 =>
  (jS (x4.toNat : Int)).bind fun x5 =>
  bif x5 then
   some (.inr s3)
  else
   some (.inl (IntKind.i64.wrap (s3 - 1)))
 else
  some (.inr s3)
def eI (a0 : aA) : Option (Int × Int) :=
 bif ((a0.length : Int) == 0) then
  some (65533, 0)
 else
  (idx a0 (IntKind.i64.wrap ((a0.length : Int) - 1))).bind fun x1 =>
  bif (decide ((IntKind.i32.wrap (x1.toNat : Int)) < 128)) then
   some ((IntKind.i32.wrap (x1.toNat : Int)), 1)
  else
   (aR (dU a0) (IntKind.i64.wrap ((IntKind.i64.wrap ((a0.length : Int) - 1)) - 1)) : Option Int).bind fun j2 =>
   bif (decide (j2 < 0)) then
    (slc a0 0 (a0.length : Int)).bind fun x6 =>
    (cO x6).bind fun x7 =>
    bif ((IntKind.i64.wrap (0 + x7.2)) != (a0.length : Int)) then
     some (65533, 1)
    else
     some (x7.1, x7.2)
   else
    (slc a0 j2 (a0.length : Int)).bind fun x8 =>
    (cO x8).bind fun x9 =>
    bif ((IntKind.i64.wrap (j2 + x9.2)) != (a0.length : Int)) then
     some (65533, 1)
    else
     some (x9.1, x9.2)
def g7 (a1 : aA) (s2 : aA) : Option (aA ⊕ aA) :=
 bif (decide ((s2.length : Int) > 0)) then
  (idx s2 (IntKind.i64.wrap ((s2.length : Int) - 1))).bind fun x3 =>
  bif (decide ((IntKind.i32.wrap (x3.toNat : Int)) ≥ 128)) then
   (eI s2).bind fun x4 =>
   (gI a1 x4.1).bind fun x5 =>
   bif (!x5) then
    some (.inr s2)
   else
    (slc s2 0 (IntKind.i64.wrap ((s2.length : Int) - x4.2))).bind fun x6 =>
    some (.inl x6)
  else
   (gI a1 (IntKind.i32.wrap (x3.toNat : Int))).bind fun x7 =>
   bif (!x7) then
    some (.inr s2)
   else
    (slc s2 0 (IntKind.i64.wrap ((s2.length : Int) - 1))).bind fun x8 =>
    some (.inl x8)
 else
  some (.inr s2)
def iW (a0 : aA) (a1 : aA) : Option aA :=
 (aR (g7 a1) a0 : Option aA).bind fun j1 =>
 some j1
def pO (a0 : aA) (a1 : aA) : Option aA :=
 bif (bif (a0 == ([] : aA)) then true else (a1 == ([] : aA))) then
  some a0
 else
  (gidx ((a1.length : Int) == 1) a1 0).bind fun x1 =>
  bif (bif ((a1.length : Int) == 1) then (decide ((x1.toNat : Int) < 128)) else false) then
   (idx a1 0).bind fun x2 =>
   (kB a0 (x2.toNat : Int)).bind fun x3 =>
   (idx a1 0).bind fun x4 =>
   (iS x3 (x4.toNat : Int)).bind fun x5 =>
   some x5
  else
   (bH a1).bind fun x6 =>
   chk (x6.1.length = 256) <|
   chk (0 < x6.1.length) <|
   bif x6.2 then
    (fA a0 x6.1).bind fun x8 =>
    (cR x8 x6.1).bind fun x9 =>
    some x9
   else
    (iW a0 a1).bind fun x10 =>
    (gN x10 a1).bind fun x11 =>
    some x11
def nE (a0 : aA) : Option aA :=
 (pO a0 ([32, 9] : aA)).bind fun x1 =>
 some x1
def lQ (x : (Int × (List Bool))) : Option ((Int × (List Bool)) ⊕ (List Bool)) :=
 match x with
 | (s2, s3) =>
  bif (decide (s2 < 256)) then
   chk (0 <= s2 /\ s2 < 256) <|
   (seti s3 s2 (bif (bif (decide (s2 < 32)) then (s2 != 9) else false) then true else (s2 == 127))).bind fun x5 =>
   some (.inl ((IntKind.i64.wrap (s2 + 1)), x5))
  else
   some (.inr s3)
def l9 : Option (List Bool) :=
 (aR lQ (0, (List.replicate 256 false)) : Option (List Bool)).bind fun j1 =>
 chk (0 < j1.length) (some j1)
def lX (a0 : aA) (a1 : (List Bool)) (a2i : (List Bool) -> Int -> Option Bool) (s1 : Int) : Option (Int ⊕ Bool) :=
 bif (decide (s1 < (a0.length : Int))) then
  (idx a0 s1).bind fun x2 =>
  (a2i a1 (x2.toNat : Int)).bind fun x3 =>
  bif x3 then
   some (.inr true)
  else
   some (.inl (IntKind.i64.wrap (s1 + 1)))
 else
  some (.inr false)
def sE (a0 : aA) (a1 : (List Bool)) (a2i : (List Bool) -> Int -> Option Bool) : Option Bool :=
 aR (lX a0 a1 a2i) 0
def iZ (a0 : (List Bool)) (a1 : Int) : Option Bool :=
 chk (0 <= a1 /\ a1 < 256) <|
 (idx a0 a1).bind fun x2 =>
 some x2
def fY (a0 : aA) (x : ((List UInt8) × Int)) : Option (((List UInt8) × Int) ⊕ (aA × Int)) :=
 match x with
 | (s5, s6) =>
  bif (decide (s6 < (IntKind.i64.wrap ((a0.length : Int) - 1)))) then
   (idx a0 s6).bind fun x7 =>
   bif ((x7.toNat : Int) == 34) then
    some (.inr (([] : aA), 11))
   else
    bif ((x7.toNat : Int) == 92) then
     bif ((IntKind.i64.wrap (s6 + 1)) == (IntKind.i64.wrap ((a0.length : Int) - 1))) then
      some (.inr (([] : aA), 11))
     else
      (idx a0 (IntKind.i64.wrap (s6 + 1))).bind fun x8 =>
      (app 1 s5 ([u8 (x8.toNat : Int)] : List UInt8)).bind fun x9 =>
      some (.inl (x9, (IntKind.i64.wrap ((IntKind.i64.wrap (s6 + 1)) + 1))))
    else
     (idx a0 s6).bind fun x10 =>
     (app 1 s5 ([u8 (x10.toNat : Int)] : List UInt8)).bind fun x11 =>
     some (.inl (x11, (IntKind.i64.wrap (s6 + 1))))
  else
   some (.inr (s5, 0))
def nF (a0 : aA) : Option (aA × Int) :=
 (gidx (!(decide ((a0.length : Int) < 2))) a0 0).bind fun x1 =>
 (gidx (!(bif (decide ((a0.length : Int) < 2)) then true else ((x1.toNat : Int) != 34))) a0 (IntKind.i64.wrap ((a0.length : Int) - 1))).bind fun x2 =>
 (f6 (!(bif (bif (decide ((a0.length : Int) < 2)) then true else ((x1.toNat : Int) != 34)) then true else ((x2.toNat : Int) != 34))) l9).bind fun x3 =>
 (f6 (!(bif (bif (decide ((a0.length : Int) < 2)) then true else ((x1.toNat : Int) != 34)) then true else ((x2.toNat : Int) != 34))) (sE a0 x3 (fun x0 x1 => iZ x0 x1))).bind fun x4 =>
 bif (bif (bif (bif (decide ((a0.length : Int) < 2)) then true else ((x1.toNat : Int) != 34)) then true else ((x2.toNat : Int) != 34)) then true else x4) then
  some (([] : aA), 11)
 else
  aR (fY a0) (([] : List UInt8), 1)
def mA (a0 : aA) (oc0 : (List aE)) : Option (Unit × (List aE)) :=
 (nE a0).bind fun x1 =>
 (dO x1 ([61] : aA)).bind fun x2 =>
 (nE x2.1).bind fun x3 =>
 (nE x2.2.1).bind fun x4 =>
 bif (bif (!x2.2.2) then true else (x3 == ([] : aA))) then
  some ((), oc0)
 else
  (nF x4).bind fun x5 =>
  bif (x5.2 == 0) then
   (app 32 oc0 ([(aE.mk x3 x5.1)] : List aE)).bind fun x6 =>
   some ((), x6)
  else
   (app 32 oc0 ([(aE.mk x3 x4)] : List aE)).bind fun x7 =>
   some ((), x7)
def cD (x1 : (List aA)) (x : (Int × (List aE))) : Option ((Int × (List aE)) ⊕ (Unit × (List aE))) :=
 match x with
 | (s2, s3) =>
  bif (decide (s2 < (x1.length : Int))) then
   (idx x1 s2).bind fun x4 =>
   bif (!(x4 == ([] : aA))) then
    (mA x4 s3).bind fun x5 =>
    some (.inl ((IntKind.i64.wrap (s2 + 1)), x5.2))
   else
    some (.inl ((IntKind.i64.wrap (s2 + 1)), s3))
  else
   some (.inr ((), s3))
def eQ (a0 : aA) (a1 : aA) (oa20 : (List aE)) : Option (Unit × (List aE)) :=
 (strings_Split a0 a1).bind fun x1 =>
 aR (cD x1) (0, oa20)
def iJ (a0 : aA) : Option (List aE) :=
 (eQ a0 ([59] : aA) ([] : List aE)).bind fun x1 =>
 some x1.2
def aN (a0 : (List aE)) (a1i : aE -> Option Bool) (s1 : Int) : Option (Int ⊕ Int) :=
 bif (decide (s1 < (a0.length : Int))) then
  (idx a0 s1).bind fun x2 =>
  (a1i x2).bind fun x3 =>
  bif x3 then
   some (.inr s1)
  else
   some (.inl (IntKind.i64.wrap (s1 + 1)))
 else
  some (.inr (-1))
def cV (a0 : (List aE)) (a1i : aE -> Option Bool) : Option Int :=
 aR (aN a0 a1i) 0
def iK (a0 : aE) (c0 : aA) : Option Bool :=
 some (a0.Name == c0)
def oH (a0 : (List aE)) (a1 : aA) : Option (aA × Bool) :=
 (cV a0 (fun x0 => iK x0 a1)).bind fun x1 =>
 bif (decide (x1 ≥ 0)) then
  (idx a0 x1).bind fun x2 =>
  some (x2.Value, true)
 else
  some (([] : aA), false)
def nG (a0 : aA) (c0 : aL) : Option (aA × Bool) :=
 (iJ c0.Cookie).bind fun x1 =>
 (oH x1 a0).bind fun x2 =>
 some (x2.1, x2.2)
def jC (a0 : aA) (x : (Int × (List UInt8))) : Option ((Int × (List UInt8)) ⊕ (List UInt8)) :=
 match x with
 | (s2, s3) =>
  bif (decide (s2 < ((a0.length : Nat) : Int))) then
   chk (0 <= s2 /\ s2 < (a0.length : Int)) <|
   (idx s3 s2).bind fun x5 =>
   bif (bif (decide ((x5.toNat : Int) ≥ 65)) then (decide ((x5.toNat : Int) <= 90)) else false) then
    chk (0 <= s2 /\ s2 < (a0.length : Int)) <|
    (seti s3 s2 (u8 (IntKind.u8.wrap ((IntKind.u8.wrap ((x5.toNat : Int) + 97)) - 65)))).bind fun x7 =>
    some (.inl ((IntKind.i64.wrap (s2 + 1)), x7))
   else
    some (.inl ((IntKind.i64.wrap (s2 + 1)), s3))
  else
   some (.inr s3)
def m0 (a0 : aA) : Option aA :=
 (aR (jC a0) (0, a0) : Option (List UInt8)).bind fun j1 =>
 chk (a0.length <= j1.length) <|
 some (j1.take a0.length)
def nH (a0 : Int) : Option Int :=
 (m0 ([u8 a0] : List UInt8)).bind fun x1 =>
 (idx x1 0).bind fun x2 =>
 (fJ ([48, 49, 50, 51, 52, 53, 54, 55, 56, 57, 97, 98, 99, 100, 101, 102] : aA) (x2.toNat : Int)).bind fun x3 =>
 some x3
def iR (a0 : aA) (x : ((List UInt8) × Int)) : Option (((List UInt8) × Int) ⊕ (List UInt8)) :=
 match x with
 | (s2, s3) =>
  bif (decide (s3 < (a0.length : Int))) then
   (idx a0 s3).bind fun x4 =>
   bif ((x4.toNat : Int) == 43) then
    (app 1 s2 ([u8 32] : List UInt8)).bind fun x5 =>
    some (.inl (x5, (IntKind.i64.wrap (s3 + 1))))
   else
    (gidx (bif ((x4.toNat : Int) == 37) then (decide ((IntKind.i64.wrap (s3 + 2)) < (a0.length : Int))) else false) a0 (IntKind.i64.wrap (s3 + 1))).bind fun x6 =>
    (f6 (bif ((x4.toNat : Int) == 37) then (decide ((IntKind.i64.wrap (s3 + 2)) < (a0.length : Int))) else false) (nH (x6.toNat : Int))).bind fun x7 =>
    (gidx (bif (bif ((x4.toNat : Int) == 37) then (decide ((IntKind.i64.wrap (s3 + 2)) < (a0.length : Int))) else false) then (decide (x7 ≥ 0)) else false) a0 (IntKind.i64.wrap (s3 + 2))).bind fun x8 =>
    (f6 (bif (bif ((x4.toNat : Int) == 37) then (decide ((IntKind.i64.wrap (s3 + 2)) < (a0.length : Int))) else false) then (decide (x7 ≥ 0)) else false) (nH (x8.toNat : Int))).bind fun x9 =>
    bif (bif (bif (bif ((x4.toNat : Int) == 37) then (decide ((IntKind.i64.wrap (s3 + 2)) < (a0.length : Int))) else false) then (decide (x7 ≥ 0)) else false) then (decide (x9 ≥ 0)) else false) then
     (idx a0 (IntKind.i64.wrap (s3 + 1))).bind fun x10 =>
     (nH (x10.toNat : Int)).bind fun x11 =>
     (idx a0 (IntKind.i64.wrap (s3 + 2))).bind fun x12 =>
     (nH (x12.toNat : Int)).bind fun x13 =>
     (app 1 s2 ([u8 (IntKind.u8.wrap (IntKind.i64.wrap ((IntKind.i64.wrap (x11 * 16)) + x13)))] : List UInt8)).bind fun x14 =>
     some (.inl (x14, (IntKind.i64.wrap ((IntKind.i64.wrap (s3 + 2)) + 1))))
    else
     (app 1 s2 ([u8 (x4.toNat : Int)] : List UInt8)).bind fun x15 =>
     some (.inl (x15, (IntKind.i64.wrap (s3 + 1))))
  else
   some (.inr s2)
def m5 (a0 : aA) : Option aA :=
 (aR (iR a0) (([] : List UInt8), 0) : Option (List UInt8)).bind fun j1 =>
 some j1
def oC (a0 : aA) (oc0 : (List aE)) : Option (Unit × (List aE)) :=
 (dO a0 ([61] : aA)).bind fun x1 =>
 (m5 x1.1).bind fun x2 =>
 (m5 x1.2.1).bind fun x3 =>
 (app 32 oc0 ([(aE.mk x2 x3)] : List aE)).bind fun x4 =>
 some ((), x4)
def cI (x1 : (List aA)) (x : (Int × (List aE))) : Option ((Int × (List aE)) ⊕ (Unit × (List aE))) :=
 match x with
 | (s2, s3) =>
  bif (decide (s2 < (x1.length : Int))) then
   (idx x1 s2).bind fun x4 =>
   bif (!(x4 == ([] : aA))) then
    (oC x4 s3).bind fun x5 =>
    some (.inl ((IntKind.i64.wrap (s2 + 1)), x5.2))
   else
    some (.inl ((IntKind.i64.wrap (s2 + 1)), s3))
  else
   some (.inr ((), s3))
def fT (a0 : aA) (a1 : aA) (oa20 : (List aE)) : Option (Unit × (List aE)) :=
 (strings_Split a0 a1).bind fun x1 =>
 aR (cI x1) (0, oa20)
def kC (a0 : aA) : Option (List aE) :=
 (fT a0 ([38] : aA) ([] : List aE)).bind fun x1 =>
 some x1.2
def nI (a0 : aA) (c0 : aL) : Option (aA × Bool) :=
 (kC c0.Query).bind fun x1 =>
 (oH x1 a0).bind fun x2 =>
 some (x2.1, x2.2)
def a7 (a0 : (List aA)) (a1 : aA) (s1 : Int) : Option (Int ⊕ Int) :=
 bif (decide (s1 < (a0.length : Int))) then
  (idx a0 s1).bind fun x2 =>
  bif (a1 == x2) then
   some (.inr s1)
  else
   some (.inl (IntKind.i64.wrap (s1 + 1)))
 else
  some (.inr (-1))
def eR (a0 : (List aA)) (a1 : aA) : Option Int :=
 aR (a7 a0 a1) 0
def bC (a0 : (List aA)) (a1 : aA) : Option Bool :=
 (eR a0 a1).bind fun x1 =>
 some (decide (x1 ≥ 0))
def kL (a0 : aA) (oc0 : (List aA)) : Option (Unit × (List aA)) :=
 (dO a0 ([59] : aA)).bind fun x1 =>
 (nE x1.1).bind fun x2 =>
 (m0 x2).bind fun x3 =>
 (f6 (!(x3 == ([] : aA))) (bC oc0 x3)).bind fun x4 =>
 bif (bif (!(x3 == ([] : aA))) then (!x4) else false) then
  (app 16 oc0 ([x3] : List aA)).bind fun x5 =>
  some ((), x5)
 else
  some ((), oc0)
def bU (x1 : (List aA)) (x : (Int × (List aA))) : Option ((Int × (List aA)) ⊕ (Unit × (List aA))) :=
 match x with
 | (s2, s3) =>
  bif (decide (s2 < (x1.length : Int))) then
   (idx x1 s2).bind fun x4 =>
   bif (!(x4 == ([] : aA))) then
    (kL x4 s3).bind fun x5 =>
    some (.inl ((IntKind.i64.wrap (s2 + 1)), x5.2))
   else
    some (.inl ((IntKind.i64.wrap (s2 + 1)), s3))
  else
   some (.inr ((), s3))
def eB (a0 : aA) (a1 : aA) (oa20 : (List aA)) : Option (Unit × (List aA)) :=
 (strings_Split a0 a1).bind fun x1 =>
 aR (bU x1) (0, oa20)
def fZ (a0 : aA) : Option (List aA) :=
 (eB a0 ([44] : aA) ([] : List aA)).bind fun x1 =>
 some x1.2
def nJ (a0 : aA) (c0 : aL) : Option (aA × Bool) :=
 (fZ c0.Language).bind fun x1 =>
 (m0 a0).bind fun x2 =>
 (bC x1 x2).bind fun x3 =>
 bif x3 then
  some (([116, 114, 117, 101] : aA), true)
 else
  some (([102, 97, 108, 115, 101] : aA), true)
def iC (a0 : aL) (a1 : aA) (a2 : aA) : Option (aA × Bool) :=
 (tB a0).bind fun x1 =>
 bif (a1 == ([72, 84, 84, 80, 95, 72, 79, 83, 84] : aA)) then
  bif (!true) then
   some (([] : aA), false)
  else
   (mZ a2 x1.1).bind fun x3 =>
   some (x3.1, x3.2)
 else
  bif (a1 == ([72, 84, 84, 80, 95, 82, 69, 70, 69, 82, 69, 82] : aA)) then
   bif (!true) then
    some (([] : aA), false)
   else
    (mZ a2 x1.2.1).bind fun x5 =>
    some (x5.1, x5.2)
  else
   bif (a1 == ([72, 84, 84, 80, 95, 85, 83, 69, 82, 95, 65, 71, 69, 78, 84] : aA)) then
    bif (!true) then
     some (([] : aA), false)
    else
     (iI a2 x1.2.2.1.1 (fun x0 => nD x0 x1.2.2.1.2)).bind fun x7 =>
     some (x7.1, x7.2)
   else
    bif (a1 == ([72, 84, 84, 80, 95, 67, 79, 79, 75, 73, 69] : aA)) then
     bif (!true) then
      some (([] : aA), false)
     else
      (iI a2 x1.2.2.2.1.1 (fun x0 => nG x0 x1.2.2.2.1.2)).bind fun x9 =>
      some (x9.1, x9.2)
    else
     bif (a1 == ([81, 85, 69, 82, 89, 95, 83, 84, 82, 73, 78, 71] : aA)) then
      bif (!true) then
       some (([] : aA), false)
      else
       (iI a2 x1.2.2.2.2.1.1 (fun x0 => nI x0 x1.2.2.2.2.1.2)).bind fun x11 =>
       some (x11.1, x11.2)
     else
      bif (a1 == ([72, 84, 84, 80, 95, 65, 67, 67, 69, 80, 84, 95, 76, 65, 78, 71, 85, 65, 71, 69] : aA)) then
       bif (!true) then
        some (([] : aA), false)
       else
        (iI a2 x1.2.2.2.2.2.1 (fun x0 => nJ x0 x1.2.2.2.2.2.2)).bind fun x13 =>
        some (x13.1, x13.2)
      else
       bif (!false) then
        some (([] : aA), false)
       else
        none
def mB (a0 : aL) (a1 : aA) : Option (aA × Int) :=
 (dT a1 ([36, 40] : aA)).bind fun x1 =>
 (kK x1.1 (fun x0 => lS x0)).bind fun x2 =>
 bif (bif (!x1.2) then true else (x2 == 0)) then
  eX.bind fun x3 =>
  some (x3.1, x3.2)
 else
  (slc x1.1 0 x2).bind fun x4 =>
  (slc x1.1 x2 (x1.1.length : Int)).bind fun x5 =>
  (aP x5 ([123] : aA)).bind fun x6 =>
  bif x6 then
   (slc x5 1 (x5.length : Int)).bind fun x7 =>
   (qS ([125, 41, 124, 39, 10, 13] : aA)).bind fun x8 =>
   (kK x7 (fun x0 => f9 x0 x8)).bind fun x9 =>
   (slc x5 1 (IntKind.i64.wrap (1 + x9))).bind fun x10 =>
   (gslc (!(x9 == 0)) x5 (IntKind.i64.wrap (1 + x9)) (x5.length : Int)).bind fun x11 =>
   (f6 (!(x9 == 0)) (aP x11 ([125] : aA))).bind fun x12 =>
   bif (bif (x9 == 0) then true else (!x12)) then
    eX.bind fun x13 =>
    some (x13.1, x13.2)
   else
    (slc x5 (IntKind.i64.wrap (2 + x9)) (x5.length : Int)).bind fun x14 =>
    (aP x14 ([124, 39] : aA)).bind fun x15 =>
    bif x15 then
     (slc x14 2 (x14.length : Int)).bind fun x16 =>
     (dO x16 ([39] : aA)).bind fun x17 =>
     bif (!x17.2.2) then
      eX.bind fun x18 =>
      some (x18.1, x18.2)
     else
      (aP x17.2.1 ([41] : aA)).bind fun x19 =>
      bif (!x19) then
       eX.bind fun x20 =>
       some (x20.1, x20.2)
      else
       (iC a0 x4 x10).bind fun x21 =>
       bif (!x21.2) then
        some (x17.1, (IntKind.i64.wrap ((IntKind.i64.wrap ((a1.length : Int) - (x17.2.1.length : Int))) + 1)))
       else
        some (x21.1, (IntKind.i64.wrap ((IntKind.i64.wrap ((a1.length : Int) - (x17.2.1.length : Int))) + 1)))
    else
     (aP x14 ([124] : aA)).bind fun x22 =>
     bif x22 then
      (slc x14 1 (x14.length : Int)).bind fun x23 =>
      (qS ([39, 41, 124, 10, 13] : aA)).bind fun x24 =>
      (kK x23 (fun x0 => f9 x0 x24)).bind fun x25 =>
      (slc x14 1 (IntKind.i64.wrap (1 + x25))).bind fun x26 =>
      (slc x14 (IntKind.i64.wrap (1 + x25)) (x14.length : Int)).bind fun x27 =>
      (aP x27 ([41] : aA)).bind fun x28 =>
      bif (!x28) then
       eX.bind fun x29 =>
       some (x29.1, x29.2)
      else
       (iC a0 x4 x10).bind fun x30 =>
       bif (!x30.2) then
        some (x26, (IntKind.i64.wrap ((IntKind.i64.wrap ((a1.length : Int) - (x27.length : Int))) + 1)))
       else
        some (x30.1, (IntKind.i64.wrap ((IntKind.i64.wrap ((a1.length : Int) - (x27.length : Int))) + 1)))
     else
      (aP x14 ([41] : aA)).bind fun x31 =>
      bif (!x31) then
       eX.bind fun x32 =>
       some (x32.1, x32.2)
      else
       (iC a0 x4 x10).bind fun x33 =>
       bif (!x33.2) then
        some (([] : aA), (IntKind.i64.wrap ((IntKind.i64.wrap ((a1.length : Int) - (x14.length : Int))) + 1)))
       else
        some (x33.1, (IntKind.i64.wrap ((IntKind.i64.wrap ((a1.length : Int) - (x14.length : Int))) + 1)))
  else
   (aP x5 ([124, 39] : aA)).bind fun x34 =>
   bif x34 then
    (slc x5 2 (x5.length : Int)).bind fun x35 =>
    (dO x35 ([39] : aA)).bind fun x36 =>
    bif (!x36.2.2) then
     eX.bind fun x37 =>
     some (x37.1, x37.2)
    else
     (aP x36.2.1 ([41] : aA)).bind fun x38 =>
     bif (!x38) then
      eX.bind fun x39 =>
      some (x39.1, x39.2)
     else
      (iC a0 x4 ([] : aA)).bind fun x40 =>
      bif (!x40.2) then
       some (x36.1, (IntKind.i64.wrap ((IntKind.i64.wrap ((a1.length : Int) - (x36.2.1.length : Int))) + 1)))
      else
       some (x40.1, (IntKind.i64.wrap ((IntKind.i64.wrap ((a1.length : Int) - (x36.2.1.length : Int))) + 1)))
   else
    (aP x5 ([124] : aA)).bind fun x41 =>
    bif x41 then
     (slc x5 1 (x5.length : Int)).bind fun x42 =>
     (qS ([39, 41, 124, 10, 13] : aA)).bind fun x43 =>
     (kK x42 (fun x0 => f9 x0 x43)).bind fun x44 =>
     (slc x5 1 (IntKind.i64.wrap (1 + x44))).bind fun x45 =>
     (slc x5 (IntKind.i64.wrap (1 + x44)) (x5.length : Int)).bind fun x46 =>
     (aP x46 ([41] : aA)).bind fun x47 =>
     bif (!x47) then
      eX.bind fun x48 =>
      some (x48.1, x48.2)
     else
      (iC a0 x4 ([] : aA)).bind fun x49 =>
      bif (!x49.2) then
       some (x45, (IntKind.i64.wrap ((IntKind.i64.wrap ((a1.length : Int) - (x46.length : Int))) + 1)))
      else
       some (x49.1, (IntKind.i64.wrap ((IntKind.i64.wrap ((a1.length : Int) - (x46.length : Int))) + 1)))
    else
     (aP x5 ([41] : aA)).bind fun x50 =>
     bif (!x50) then
      eX.bind fun x51 =>
      some (x51.1, x51.2)
     else
      (iC a0 x4 ([] : aA)).bind fun x52 =>
      bif (!x52.2) then
       some (([] : aA), (IntKind.i64.wrap ((IntKind.i64.wrap ((a1.length : Int) - (x5.length : Int))) + 1)))
      else
       some (x52.1, (IntKind.i64.wrap ((IntKind.i64.wrap ((a1.length : Int) - (x5.length : Int))) + 1)))
def hR (a0 : aA) (a1 : aA) : Option aA :=
 (bY a0 a1).bind fun x1 =>
 bif x1 then
  (slc a0 (a1.length : Int) (a0.length : Int)).bind fun x2 =>
  some x2
 else
  some a0
def iL (a0 : aA) (a1 : aA) : Option aA :=
 (hR a0 a1).bind fun x1 =>
 some x1
def eY (a0 : aA) (a1 : Int) (a2i : Int -> Option Int) (x : (Int × Bool × Int)) : Option ((Int × Bool × Int) ⊕ (Int × Int)) :=
 match x with
 | (s1, s2, s3) =>
  bif (decide (s3 < (a0.length : Int))) then
   (idx a0 s3).bind fun x4 =>
   (a2i (x4.toNat : Int)).bind fun x5 =>
   bif (decide (x5 ≥ a1)) then
    some (.inr (0, 10))
   else
    bif (decide ((IntKind.i64.wrap ((IntKind.i64.wrap (s1 * a1)) + x5)) > 1099511627776)) then
     some (.inl (0, true, (IntKind.i64.wrap (s3 + 1))))
    else
     some (.inl ((IntKind.i64.wrap ((IntKind.i64.wrap (s1 * a1)) + x5)), s2, (IntKind.i64.wrap (s3 + 1))))
  else
   bif s2 then
    some (.inr (0, 2))
   else
    some (.inr (s1, 0))
def fK (a0 : aA) (a1 : Int) (a2i : Int -> Option Int) : Option (Int × Int) :=
 bif (a0 == ([] : aA)) then
  some (0, 10)
 else
  aR (eY a0 a1 a2i) (0, false, 0)
def g8 (a0 : Int) : Option Int :=
 some (IntKind.i64.wrap (IntKind.u8.wrap (a0 - 48)))
def iM (a0 : aA) : Option (Int × Int) :=
 (dT a0 ([45] : aA)).bind fun x1 =>
 (fK x1.1 10 (fun x0 => g8 x0)).bind fun x2 =>
 bif x1.2 then
  some ((IntKind.i64.wrap (0 - x2.1)), x2.2)
 else
  some (x2.1, x2.2)
def gA (o0 : aC) : Option (aB × aC) :=
 (eP o0).bind fun x1 =>
 (dT x1.2.s ([39] : aA)).bind fun x2 =>
 bif x2.2 then
  (dO x2.1 ([39] : aA)).bind fun x3 =>
  bif (!x3.2.2) then
   (iB x1.2).bind fun x4 =>
   some (x4.1, x4.2)
  else
   some ((aB.mk 2 0 x3.1 ([] : aA) ([] : List aB)), (aC.mk x3.2.1 x1.2.bad))
 else
  (mB (aL.mk ([] : aA) ([] : aA) ([] : aA) ([] : aA) ([] : aA) ([] : aA)) x1.2.s).bind fun x5 =>
  bif (decide (x5.2 > 0)) then
   (slc x1.2.s 0 x5.2).bind fun x6 =>
   (slc x1.2.s x5.2 (x1.2.s.length : Int)).bind fun x7 =>
   some ((aB.mk 3 0 x6 ([] : aA) ([] : List aB)), (aC.mk x7 x1.2.bad))
  else
   (iL x1.2.s ([45] : aA)).bind fun x8 =>
   (cL x8 ([48, 49, 50, 51, 52, 53, 54, 55, 56, 57] : aA)).bind fun x9 =>
   (slc x1.2.s 0 (IntKind.i64.wrap ((x1.2.s.length : Int) - (x9.length : Int)))).bind fun x10 =>
   (iM x10).bind fun x11 =>
   bif (x11.2 != 0) then
    (iB x1.2).bind fun x12 =>
    some (x12.1, x12.2)
   else
    some ((aB.mk 1 x11.1 ([] : aA) ([] : aA) ([] : List aB)), (aC.mk x9 x1.2.bad))
def oI : Option (List aA) :=
 some ([([61, 61] : aA), ([33, 61] : aA), ([60, 61] : aA), ([62, 61] : aA), ([60] : aA), ([62] : aA)] : List aA)
def fL (x1 : (List aA)) (x : (Int × aC)) : Option ((Int × aC) ⊕ (aA × aC)) :=
 match x with
 | (s2, s3) =>
  bif (decide (s2 < (x1.length : Int))) then
   (idx x1 s2).bind fun x4 =>
   (a8 s3 x4).bind fun x5 =>
   bif x5.1 then
    some (.inr (x4, x5.2))
   else
    some (.inl ((IntKind.i64.wrap (s2 + 1)), x5.2))
  else
   some (.inr (([] : aA), s3))
def jE (o0 : aC) : Option (aA × aC) :=
 oI.bind fun x1 =>
 aR (fL x1) (0, o0)
def fM (aNp : aC -> Option (aB × aC)) (aNF : aC -> Option (aB × aC)) (o0 : aC) : Option (aB × aC) :=
 bif o0.bad then
  some ((aB.mk 0 0 ([] : aA) ([] : aA) ([] : List aB)), o0)
 else
  (a8 o0 ([33] : aA)).bind fun x1 =>
  bif x1.1 then
   (aNF x1.2).bind fun x2 =>
   some ((aB.mk 4 0 ([] : aA) ([] : aA) ([x2.1] : List aB)), x2.2)
  else
   (a8 x1.2 ([40] : aA)).bind fun x3 =>
   bif x3.1 then
    (aNp x3.2).bind fun x4 =>
    (a8 x4.2 ([41] : aA)).bind fun x5 =>
    bif (!x5.1) then
     (iB x5.2).bind fun x6 =>
     some (x6.1, x6.2)
    else
     some (x4.1, x5.2)
   else
    (gA x3.2).bind fun x7 =>
    (jE x7.2).bind fun x8 =>
    bif (x8.1 == ([] : aA)) then
     some (x7.1, x8.2)
    else
     (gA x8.2).bind fun x9 =>
     some ((aB.mk 7 0 ([] : aA) x8.1 ([x7.1, x9.1] : List aB)), x9.2)
def eM (aNp : aC -> Option (aB × aC)) : Nat -> aC -> Option (aB × aC)
 | 0 => fun _ => none
 | n + 1 => fM aNp (eM aNp n)
def mC (aNp : aC -> Option (aB × aC)) (o0 : aC) : Option (aB × aC) := eM aNp 1000000 o0
def d7 (aNp : aC -> Option (aB × aC)) (a2 : aA) (x : ((List aB) × aC)) : Option (((List aB) × aC) ⊕ ((List aB) × aC)) :=
 match x with
 | (s3, s4) =>
  (a8 s4 a2).bind fun x5 =>
  bif x5.1 then
   (mC aNp x5.2).bind fun x6 =>
   (app 72 s3 ([x6.1] : List aB)).bind fun x7 =>
   some (.inl (x7, x6.2))
  else
   some (.inr (s3, x5.2))
def dC (aNp : aC -> Option (aB × aC)) (o0 : aC) (a1 : Int) (a2 : aA) : Option (aB × aC) :=
 (mC aNp o0).bind fun x1 =>
 (aR (d7 aNp a2) (([x1.1] : List aB), x1.2) : Option ((List aB) × aC)).bind fun j2 =>
 bif ((j2.1.length : Int) == 1) then
  (idx j2.1 0).bind fun x8 =>
  some (x8, j2.2)
 else
  some ((aB.mk a1 0 ([] : aA) ([] : aA) j2.1), j2.2)
def gU (aNp : aC -> Option (aB × aC)) (o0 : aC) : Option (aB × aC) :=
 (dC aNp o0 5 ([38] : aA)).bind fun x1 =>
 some (x1.1, x1.2)
def dV (aNp : aC -> Option (aB × aC)) (a2 : aA) (x : ((List aB) × aC)) : Option (((List aB) × aC) ⊕ ((List aB) × aC)) :=
 match x with
 | (s3, s4) =>
  (a8 s4 a2).bind fun x5 =>
  bif x5.1 then
   (gU aNp x5.2).bind fun x6 =>
   (app 72 s3 ([x6.1] : List aB)).bind fun x7 =>
   some (.inl (x7, x6.2))
  else
   some (.inr (s3, x5.2))
def cW (aNp : aC -> Option (aB × aC)) (o0 : aC) (a1 : Int) (a2 : aA) : Option (aB × aC) :=
 (gU aNp o0).bind fun x1 =>
 (aR (dV aNp a2) (([x1.1] : List aB), x1.2) : Option ((List aB) × aC)).bind fun j2 =>
 bif ((j2.1.length : Int) == 1) then
  (idx j2.1 0).bind fun x8 =>
  some (x8, j2.2)
 else
  some ((aB.mk a1 0 ([] : aA) ([] : aA) j2.1), j2.2)
def iX (aNp : aC -> Option (aB × aC)) (o0 : aC) : Option (aB × aC) :=
 (cW aNp o0 6 ([124] : aA)).bind fun x1 =>
 some (x1.1, x1.2)
def gV : Nat -> aC -> Option (aB × aC)
 | 0 => fun _ => none
 | n + 1 => iX (gV n)
def oQ (o0 : aC) : Option (aB × aC) := gV 1000000 o0
def lT (x : ((List aB) × Int)) : Option (((List aB) × Int) ⊕ Bool) :=
 match x with
 | (s1, s2) =>
  bif (decide (s2 < (s1.length : Int))) then
   (idx s1 s2).bind fun x3 =>
   bif (decide ((x3.Kids.length : Int) > (IntKind.i64.wrap (60 - (s1.length : Int))))) then
    some (.inr false)
   else
    (idx s1 s2).bind fun x4 =>
    (app 72 s1 x4.Kids).bind fun x5 =>
    some (.inl (x5, (IntKind.i64.wrap (s2 + 1))))
  else
   some (.inr true)
def pP (a0 : aB) : Option Bool :=
 aR lT (([a0] : List aB), 0)
def tC (a0 : aB) : Option Bool :=
 some (bif (a0.Kind == 5) then true else (a0.Kind == 6))
def kD (aNz : aB -> Option Int) (a0 : aB) (x : (Int × Int)) : Option ((Int × Int) ⊕ Int) :=
 match x with
 | (s2, s3) =>
  bif (decide (s3 < (a0.Kids.length : Int))) then
   (idx a0.Kids s3).bind fun x4 =>
   (aNz x4).bind fun x5 =>
   (tC x4).bind fun x6 =>
   bif x6 then
    some (.inl ((imax s2 (IntKind.i64.wrap (x5 + 1))), (IntKind.i64.wrap (s3 + 1))))
   else
    some (.inl ((imax s2 x5), (IntKind.i64.wrap (s3 + 1))))
  else
   some (.inr s2)
def oR (aNz : aB -> Option Int) (a0 : aB) : Option Int :=
 (aR (kD aNz a0) (0, 0) : Option Int).bind fun j1 =>
 bif (a0.Kind == 4) then
  some (IntKind.i64.wrap (j1 + 1))
 else
  some j1
def kE : Nat -> aB -> Option Int
 | 0 => fun _ => none
 | n + 1 => oR (kE n)
def sF (a0 : aB) : Option Int := kE 1000000 a0
def oJ (a0 : aA) : Option (aB × Int) :=
 bif (decide ((a0.length : Int) > 400)) then
  some ((aB.mk 0 0 ([] : aA) ([] : aA) ([] : List aB)), 2)
 else
  (oQ (aC.mk a0 false)).bind fun x1 =>
  (eP x1.2).bind fun x2 =>
  bif (bif x2.2.bad then true else (!(x2.2.s == ([] : aA)))) then
   some ((aB.mk 0 0 ([] : aA) ([] : aA) ([] : List aB)), 50)
  else
   (pP x1.1).bind fun x3 =>
   bif (!x3) then
    some ((aB.mk 0 0 ([] : aA) ([] : aA) ([] : List aB)), 4)
   else
    (sF x1.1).bind fun x4 =>
    bif (decide (x4 > 16)) then
     some ((aB.mk 0 0 ([] : aA) ([] : aA) ([] : List aB)), 5)
    else
     some (x1.1, 0)
def lU (a0 : aB) : Option Bool :=
 some (bif (bif (a0.Kind == 1) then true else (a0.Kind == 2)) then true else (a0.Kind == 3))
def sG (a0 : aB) : Option Bool :=
 bif (bif (!(a0.Sign == ([] : aA))) then true else (decide ((a0.Kids.length : Int) > 0))) then
  some false
 else
  bif (a0.Kind == 1) then
   some (bif (bif (a0.Text == ([] : aA)) then (decide (a0.N ≥ (-1099511627776))) else false) then (decide (a0.N <= 1099511627776)) else false)
  else
   bif (a0.Kind == 2) then
    (f6 (a0.N == 0) (bT a0.Text ([39] : aA))).bind fun x1 =>
    some (bif (a0.N == 0) then (!x1) else false)
   else
    (mB (aL.mk ([] : aA) ([] : aA) ([] : aA) ([] : aA) ([] : aA) ([] : aA)) a0.Text).bind fun x2 =>
    some (bif (bif (a0.N == 0) then (decide (x2.2 > 0)) else false) then (x2.2 == (a0.Text.length : Int)) else false)
def aW (a0 : (List aB)) (a1i : aB -> Option Bool) (s1 : Int) : Option (Int ⊕ Int) :=
 bif (decide (s1 < (a0.length : Int))) then
  (idx a0 s1).bind fun x2 =>
  (a1i x2).bind fun x3 =>
  bif x3 then
   some (.inr s1)
  else
   some (.inl (IntKind.i64.wrap (s1 + 1)))
 else
  some (.inr (-1))
def cX (a0 : (List aB)) (a1i : aB -> Option Bool) : Option Int :=
 aR (aW a0 a1i) 0
def aM (a0 : (List aB)) (a1i : aB -> Option Bool) : Option Bool :=
 (cX a0 a1i).bind fun x1 =>
 some (decide (x1 ≥ 0))
def m7 (aNw : aB -> Option Bool) (a0 : aB) : Option Bool :=
 (aNw a0).bind fun x1 =>
 some (!x1)
def oS (aNw : aB -> Option Bool) (a0 : aB) : Option Bool :=
 (lU a0).bind fun x1 =>
 bif x1 then
  (sG a0).bind fun x2 =>
  some x2
 else
  (f6 (!(bif (a0.N != 0) then true else (!(a0.Text == ([] : aA))))) (aM a0.Kids (fun x0 => m7 aNw x0))).bind fun x3 =>
  bif (bif (bif (a0.N != 0) then true else (!(a0.Text == ([] : aA)))) then true else x3) then
   some false
  else
   bif (a0.Kind == 7) then
    oI.bind fun x4 =>
    (bC x4 a0.Sign).bind fun x5 =>
    (gidx (bif x5 then ((a0.Kids.length : Int) == 2) else false) a0.Kids 0).bind fun x6 =>
    (f6 (bif x5 then ((a0.Kids.length : Int) == 2) else false) (lU x6)).bind fun x7 =>
    (gidx (bif (bif x5 then ((a0.Kids.length : Int) == 2) else false) then x7 else false) a0.Kids 1).bind fun x8 =>
    (f6 (bif (bif x5 then ((a0.Kids.length : Int) == 2) else false) then x7 else false) (lU x8)).bind fun x9 =>
    some (bif (bif (bif x5 then ((a0.Kids.length : Int) == 2) else false) then x7 else false) then x9 else false)
   else
    bif (a0.Kind == 4) then
     some (bif (a0.Sign == ([] : aA)) then ((a0.Kids.length : Int) == 1) else false)
    else
     bif (a0.Kind == 5) then
      bif (a0.Kind == 5) then
       some (bif (a0.Sign == ([] : aA)) then (decide ((a0.Kids.length : Int) ≥ 2)) else false)
      else
       some false
     else
      bif (a0.Kind == 6) then
       some (bif (a0.Sign == ([] : aA)) then (decide ((a0.Kids.length : Int) ≥ 2)) else false)
      else
       some false
def lV : Nat -> aB -> Option Bool
 | 0 => fun _ => none
 | n + 1 => oS (lV n)
def yM (a0 : aB) : Option Bool := lV 1000000 a0
def lY (a0 : aB) : Option Bool :=
 (pP a0).bind fun x1 =>
 (f6 x1 (yM a0)).bind fun x2 =>
 (f6 (bif x1 then x2 else false) (sF a0)).bind fun x3 =>
 some (bif (bif x1 then x2 else false) then (decide (x3 <= 16)) else false)
def iN (aNs : aL -> aB -> Option Bool) (a0 : aB) (c0 : aL) : Option Bool :=
 (aNs c0 a0).bind fun x1 =>
 some (!x1)
def lZ (aNs : aL -> aB -> Option Bool) (a0 : aB) (c0 : aL) : Option Bool :=
 (aNs c0 a0).bind fun x1 =>
 some x1
def m9 (a0 : Int) : Option aA :=
 (jV a0 10).bind fun x1 =>
 some x1
def gO (aNA : aB -> Option aA) (a0 : aB) (x : ((List aA) × Int)) : Option (((List aA) × Int) ⊕ (List aA)) :=
 match x with
 | (s2, s3) =>
  bif (decide (s3 < (a0.Kids.length : Int))) then
   (idx a0.Kids s3).bind fun x4 =>
   (aNA x4).bind fun x5 =>
   (tC x4).bind fun x6 =>
   bif x6 then
    (cat ([40] : aA) x5).bind fun x7 =>
    (cat x7 ([41] : aA)).bind fun x8 =>
    (app 16 s2 ([x8] : List aA)).bind fun x9 =>
    some (.inl (x9, (IntKind.i64.wrap (s3 + 1))))
   else
    (app 16 s2 ([x5] : List aA)).bind fun x10 =>
    some (.inl (x10, (IntKind.i64.wrap (s3 + 1))))
  else
   some (.inr s2)
def gS (aNA : aB -> Option aA) (a0 : aB) : Option aA :=
 (aR (gO aNA a0) (([] : List aA), 0) : Option (List aA)).bind fun j1 =>
 bif (a0.Kind == 1) then
  bif (decide (a0.N < 0)) then
   (m9 (IntKind.u64.wrap (IntKind.i64.wrap (0 - a0.N)))).bind fun x11 =>
   (cat ([45] : aA) x11).bind fun x12 =>
   some x12
  else
   (m9 (IntKind.u64.wrap a0.N)).bind fun x13 =>
   some x13
 else
  bif (a0.Kind == 2) then
   (cat ([39] : aA) a0.Text).bind fun x14 =>
   (cat x14 ([39] : aA)).bind fun x15 =>
   some x15
  else
   bif (a0.Kind == 3) then
    some a0.Text
   else
    bif (a0.Kind == 4) then
     (idx j1 0).bind fun x16 =>
     (cat ([33] : aA) x16).bind fun x17 =>
     some x17
    else
     bif (a0.Kind == 5) then
      (strings_Join j1 ([38] : aA)).bind fun x18 =>
      some x18
     else
      bif (a0.Kind == 6) then
       (strings_Join j1 ([124] : aA)).bind fun x19 =>
       some x19
      else
       (strings_Join j1 a0.Sign).bind fun x20 =>
       some x20
def f0 : Nat -> aB -> Option aA
 | 0 => fun _ => none
 | n + 1 => gS (f0 n)
def qA (a0 : aB) : Option aA := f0 1000000 a0
def kM (a0 : aL) (a1 : aB) : Option aA :=
 bif (a1.Kind == 2) then
  some a1.Text
 else
  bif (a1.Kind == 3) then
   (mB a0 a1.Text).bind fun x1 =>
   some x1.1
  else
   (qA a1).bind fun x2 =>
   some x2
def l0 (a0 : aA) (a1 : aA) : Option Int :=
 (iM a0).bind fun x1 =>
 (iM a1).bind fun x2 =>
 bif (bif (x1.2 != 0) then true else (x2.2 != 0)) then
  (strings_Compare a0 a1).bind fun x3 =>
  some x3
 else
  bif (decide (x1.1 < x2.1)) then
   some (-1)
  else
   bif (decide (x1.1 > x2.1)) then
    some 1
   else
    some 0
def nK (aNs : aL -> aB -> Option Bool) (a0 : aL) (a1 : aB) : Option Bool :=
 bif (a1.Kind == 1) then
  some (a1.N != 0)
 else
  bif (a1.Kind == 4) then
   (idx a1.Kids 0).bind fun x1 =>
   (iN aNs x1 a0).bind fun x2 =>
   some x2
  else
   bif (a1.Kind == 5) then
    (aM a1.Kids (fun x0 => iN aNs x0 a0)).bind fun x3 =>
    some (!x3)
   else
    bif (a1.Kind == 6) then
     (aM a1.Kids (fun x0 => lZ aNs x0 a0)).bind fun x4 =>
     some x4
    else
     bif (a1.Kind == 7) then
      (idx a1.Kids 0).bind fun x5 =>
      (kM a0 x5).bind fun x6 =>
      (idx a1.Kids 1).bind fun x7 =>
      (kM a0 x7).bind fun x8 =>
      (l0 x6 x8).bind fun x9 =>
      bif (a1.Sign == ([61, 61] : aA)) then
       some (x9 == 0)
      else
       bif (a1.Sign == ([33, 61] : aA)) then
        some (x9 != 0)
       else
        bif (a1.Sign == ([60] : aA)) then
         some (decide (x9 < 0))
        else
         bif (a1.Sign == ([62] : aA)) then
          some (decide (x9 > 0))
         else
          bif (a1.Sign == ([60, 61] : aA)) then
           some (decide (x9 <= 0))
          else
           some (decide (x9 ≥ 0))
     else
      (kM a0 a1).bind fun x10 =>
      some (x10 == ([116, 114, 117, 101] : aA))
def iO : Nat -> aL -> aB -> Option Bool
 | 0 => fun _ _ => none
 | n + 1 => nK (iO n)
def wH (a0 : aL) (a1 : aB) : Option Bool := iO 1000000 a0 a1
def qB (a0 : aL) (a1 : aB) : Option (Bool × Int) :=
 (lY a1).bind fun x1 =>
 bif (!x1) then
  some (false, 1)
 else
  (wH a0 a1).bind fun x2 =>
  some (x2, 0)
def nL (a0 : aL) (a1 : aA) : Option (Bool × Int) :=
 (oJ a1).bind fun x1 =>
 bif (x1.2 != 0) then
  some (false, x1.2)
 else
  (qB a0 x1.1).bind fun x2 =>
  some (x2.1, x2.2)
def eZ (a0 : aB) : Option Bool :=
 some (bif (decide (a0.Kind ≥ 1)) then (decide (a0.Kind <= 3)) else false)
def eS (a1 : Int) (x : (Int × aA)) : Option ((Int × aA) ⊕ aA) :=
 match x with
 | (s2, s3) =>
  bif (bif (decide (s2 > 0)) then true else (s3 == ([] : aA))) then
   chk ((a1 == 0) = false /\ IntKind.u64.wrap (s2.tmod a1) = s2.tmod a1) <|
   chk ((a1 == 0) = false /\ IntKind.u64.wrap (s2.tmod a1) = s2.tmod a1) <|
   (slc ([48, 49, 50, 51, 52, 53, 54, 55, 56, 57, 97, 98, 99, 100, 101, 102] : aA) (s2.tmod a1) (IntKind.u64.wrap ((s2.tmod a1) + 1))).bind fun x6 =>
   (cat x6 s3).bind fun x7 =>
   chk ((a1 == 0) = false) <|
   some (.inl ((IntKind.u64.wrap (s2.tdiv a1)), x7))
  else
   some (.inr s3)
def d3 (a0 : Int) (a1 : Int) : Option aA :=
 (aR (eS a1) (a0, ([] : aA)) : Option aA).bind fun j1 =>
 some j1
def jT (aNr : aB -> Option aA) (a0 : aB) (x : (aA × Int)) : Option ((aA × Int) ⊕ aA) :=
 match x with
 | (s7, s8) =>
  bif (decide (s8 < (a0.Kids.length : Int))) then
   (idx a0.Kids s8).bind fun x9 =>
   bif (decide (s8 > 0)) then
    (cat s7 ([124] : aA)).bind fun x10 =>
    (bG x9).bind fun x11 =>
    bif x11 then
     (cat x10 ([40] : aA)).bind fun x12 =>
     (aNr x9).bind fun x13 =>
     (cat x12 x13).bind fun x14 =>
     (cat x14 ([41] : aA)).bind fun x15 =>
     some (.inl (x15, (IntKind.i64.wrap (s8 + 1))))
    else
     (aNr x9).bind fun x16 =>
     (cat x10 x16).bind fun x17 =>
     some (.inl (x17, (IntKind.i64.wrap (s8 + 1))))
   else
    (bG x9).bind fun x18 =>
    bif x18 then
     (cat s7 ([40] : aA)).bind fun x19 =>
     (aNr x9).bind fun x20 =>
     (cat x19 x20).bind fun x21 =>
     (cat x21 ([41] : aA)).bind fun x22 =>
     some (.inl (x22, (IntKind.i64.wrap (s8 + 1))))
    else
     (aNr x9).bind fun x23 =>
     (cat s7 x23).bind fun x24 =>
     some (.inl (x24, (IntKind.i64.wrap (s8 + 1))))
  else
   some (.inr s7)
def fB (aNr : aB -> Option aA) (a0 : aB) (x : (aA × Int)) : Option ((aA × Int) ⊕ aA) :=
 match x with
 | (s27, s28) =>
  bif (decide (s28 < (a0.Kids.length : Int))) then
   (idx a0.Kids s28).bind fun x29 =>
   bif (decide (s28 > 0)) then
    (cat s27 ([38] : aA)).bind fun x30 =>
    (bG x29).bind fun x31 =>
    bif x31 then
     (cat x30 ([40] : aA)).bind fun x32 =>
     (aNr x29).bind fun x33 =>
     (cat x32 x33).bind fun x34 =>
     (cat x34 ([41] : aA)).bind fun x35 =>
     some (.inl (x35, (IntKind.i64.wrap (s28 + 1))))
    else
     (aNr x29).bind fun x36 =>
     (cat x30 x36).bind fun x37 =>
     some (.inl (x37, (IntKind.i64.wrap (s28 + 1))))
   else
    (bG x29).bind fun x38 =>
    bif x38 then
     (cat s27 ([40] : aA)).bind fun x39 =>
     (aNr x29).bind fun x40 =>
     (cat x39 x40).bind fun x41 =>
     (cat x41 ([41] : aA)).bind fun x42 =>
     some (.inl (x42, (IntKind.i64.wrap (s28 + 1))))
    else
     (aNr x29).bind fun x43 =>
     (cat s27 x43).bind fun x44 =>
     some (.inl (x44, (IntKind.i64.wrap (s28 + 1))))
  else
   some (.inr s27)
def fC (aNr : aB -> Option aA) (a0 : aB) (x : (aA × Int)) : Option ((aA × Int) ⊕ aA) :=
 match x with
 | (s47, s48) =>
  bif (decide (s48 < (a0.Kids.length : Int))) then
   (idx a0.Kids s48).bind fun x49 =>
   bif (decide (s48 > 0)) then
    (cat s47 ([124] : aA)).bind fun x50 =>
    (bG x49).bind fun x51 =>
    bif x51 then
     (cat x50 ([40] : aA)).bind fun x52 =>
     (aNr x49).bind fun x53 =>
     (cat x52 x53).bind fun x54 =>
     (cat x54 ([41] : aA)).bind fun x55 =>
     some (.inl (x55, (IntKind.i64.wrap (s48 + 1))))
    else
     (aNr x49).bind fun x56 =>
     (cat x50 x56).bind fun x57 =>
     some (.inl (x57, (IntKind.i64.wrap (s48 + 1))))
   else
    (bG x49).bind fun x58 =>
    bif x58 then
     (cat s47 ([40] : aA)).bind fun x59 =>
     (aNr x49).bind fun x60 =>
     (cat x59 x60).bind fun x61 =>
     (cat x61 ([41] : aA)).bind fun x62 =>
     some (.inl (x62, (IntKind.i64.wrap (s48 + 1))))
    else
     (aNr x49).bind fun x63 =>
     (cat s47 x63).bind fun x64 =>
     some (.inl (x64, (IntKind.i64.wrap (s48 + 1))))
  else
   some (.inr s47)
def fD (aNr : aB -> Option aA) (a0 : aB) (x : (aA × Int)) : Option ((aA × Int) ⊕ aA) :=
 match x with
 | (s67, s68) =>
  bif (decide (s68 < (a0.Kids.length : Int))) then
   (idx a0.Kids s68).bind fun x69 =>
   bif (decide (s68 > 0)) then
    (cat s67 a0.Sign).bind fun x70 =>
    (bG x69).bind fun x71 =>
    bif x71 then
     (cat x70 ([40] : aA)).bind fun x72 =>
     (aNr x69).bind fun x73 =>
     (cat x72 x73).bind fun x74 =>
     (cat x74 ([41] : aA)).bind fun x75 =>
     some (.inl (x75, (IntKind.i64.wrap (s68 + 1))))
    else
     (aNr x69).bind fun x76 =>
     (cat x70 x76).bind fun x77 =>
     some (.inl (x77, (IntKind.i64.wrap (s68 + 1))))
   else
    (bG x69).bind fun x78 =>
    bif x78 then
     (cat s67 ([40] : aA)).bind fun x79 =>
     (aNr x69).bind fun x80 =>
     (cat x79 x80).bind fun x81 =>
     (cat x81 ([41] : aA)).bind fun x82 =>
     some (.inl (x82, (IntKind.i64.wrap (s68 + 1))))
    else
     (aNr x69).bind fun x83 =>
     (cat s67 x83).bind fun x84 =>
     some (.inl (x84, (IntKind.i64.wrap (s68 + 1))))
  else
   some (.inr s67)
def bZ (aNr : aB -> Option aA) (a0 : aB) : Option aA :=
 bif (bif (a0.Kind == 1) then (decide (a0.N < 0)) else false) then
  (d3 (IntKind.u64.wrap (IntKind.i64.wrap (0 - a0.N))) 10).bind fun x1 =>
  (cat ([45] : aA) x1).bind fun x2 =>
  some x2
 else
  bif (a0.Kind == 1) then
   (d3 (IntKind.u64.wrap a0.N) 10).bind fun x3 =>
   some x3
  else
   bif (a0.Kind == 2) then
    (cat ([39] : aA) a0.Text).bind fun x4 =>
    (cat x4 ([39] : aA)).bind fun x5 =>
    some x5
   else
    bif (a0.Kind == 3) then
     some a0.Text
    else
     bif (a0.Kind == 5) then
      bif (a0.Kind == 6) then
       (aR (jT aNr a0) (([] : aA), 0) : Option aA).bind fun j6 =>
       bif (a0.Kind == 4) then
        (cat ([33] : aA) j6).bind fun x25 =>
        some x25
       else
        some j6
      else
       (aR (fB aNr a0) (([] : aA), 0) : Option aA).bind fun j26 =>
       bif (a0.Kind == 4) then
        (cat ([33] : aA) j26).bind fun x45 =>
        some x45
       else
        some j26
     else
      bif (a0.Kind == 6) then
       (aR (fC aNr a0) (([] : aA), 0) : Option aA).bind fun j46 =>
       bif (a0.Kind == 4) then
        (cat ([33] : aA) j46).bind fun x65 =>
        some x65
       else
        some j46
      else
       (aR (fD aNr a0) (([] : aA), 0) : Option aA).bind fun j66 =>
       bif (a0.Kind == 4) then
        (cat ([33] : aA) j66).bind fun x85 =>
        some x85
       else
        some j66
def aQ : Nat -> aB -> Option aA
 | 0 => fun _ => none
 | n + 1 => bZ (aQ n)
def jD (a0 : aB) : Option aA := aQ 1000000 a0
def fN : Option Bool :=
 (nL (aL.mk ([] : aA) ([] : aA) ([] : aA) ([] : aA) ([] : aA) ([] : aA)) ([49, 61, 61, 49, 32, 38, 32, 33, 40, 39, 97, 39, 62, 39, 98, 39, 41] : aA)).bind fun x1 =>
 (nL (aL.mk ([] : aA) ([] : aA) ([] : aA) ([] : aA) ([] : aA) ([] : aA)) ([49, 48, 60, 57] : aA)).bind fun x2 =>
 some (bif (bif (bif (x1.2 == 0) then (x2.2 == 0) else false) then x1.1 else false) then (!x2.1) else false)
def dW (a0 : aA) (s1 : Int) : Option (Int ⊕ Bool) :=
 bif (decide (s1 < (a0.length : Int))) then
  (idx a0 s1).bind fun x2 =>
  bif ((x2.toNat : Int) == 39) then
   some (.inr false)
  else
   some (.inl (IntKind.i64.wrap (s1 + 1)))
 else
  some (.inr true)
def gJ (a0 : aA) : Option Bool :=
 aR (dW a0) 0
def dP (aNB : aB -> Option Bool) (a0 : aB) (s3 : Int) : Option (Int ⊕ Bool) :=
 bif (decide (s3 < (a0.Kids.length : Int))) then
  (idx a0.Kids s3).bind fun x4 =>
  (aNB x4).bind fun x5 =>
  bif (!x5) then
   some (.inr false)
  else
   some (.inl (IntKind.i64.wrap (s3 + 1)))
 else
  bif (!(a0.Text == ([] : aA))) then
   some (.inr false)
  else
   bif (a0.Kind == 7) then
    (dZ a0.Sign).bind fun x6 =>
    (gidx (bif x6 then ((a0.Kids.length : Int) == 2) else false) a0.Kids 0).bind fun x7 =>
    (f6 (bif x6 then ((a0.Kids.length : Int) == 2) else false) (eZ x7)).bind fun x8 =>
    (gidx (bif (bif x6 then ((a0.Kids.length : Int) == 2) else false) then x8 else false) a0.Kids 1).bind fun x9 =>
    (f6 (bif (bif x6 then ((a0.Kids.length : Int) == 2) else false) then x8 else false) (eZ x9)).bind fun x10 =>
    some (.inr (bif (bif (bif x6 then ((a0.Kids.length : Int) == 2) else false) then x8 else false) then x10 else false))
   else
    (f6 ((a0.Sign == ([] : aA)) && (!(bif (a0.Kind == 4) then ((a0.Kids.length : Int) == 1) else false))) (bG a0)).bind fun x11 =>
    some (.inr (bif (a0.Sign == ([] : aA)) then (bif (bif (a0.Kind == 4) then ((a0.Kids.length : Int) == 1) else false) then true else (bif x11 then (decide ((a0.Kids.length : Int) > 1)) else false)) else false))
def gK (aNB : aB -> Option Bool) (a0 : aB) : Option Bool :=
 bif (a0.Kind == 1) then
  some (bif (bif (bif (bif ((a0.Kids.length : Int) == 0) then (a0.Text == ([] : aA)) else false) then (a0.Sign == ([] : aA)) else false) then (decide (a0.N <= 1099511627776)) else false) then (decide (a0.N ≥ (-1099511627776))) else false)
 else
  bif (a0.N != 0) then
   some false
  else
   bif (a0.Kind == 2) then
    (f6 (bif ((a0.Kids.length : Int) == 0) then (a0.Sign == ([] : aA)) else false) (gJ a0.Text)).bind fun x1 =>
    some (bif (bif ((a0.Kids.length : Int) == 0) then (a0.Sign == ([] : aA)) else false) then x1 else false)
   else
    bif (a0.Kind == 3) then
     (cN (aL.mk ([] : aA) ([] : aA) ([] : aA) ([] : aA) ([] : aA) ([] : aA)) a0.Text).bind fun x2 =>
     some (bif (bif (bif ((a0.Kids.length : Int) == 0) then (a0.Sign == ([] : aA)) else false) then (decide (x2.2 > 0)) else false) then (x2.2 == (a0.Text.length : Int)) else false)
    else
     aR (dP aNB a0) 0
def c5 : Nat -> aB -> Option Bool
 | 0 => fun _ => none
 | n + 1 => gK (c5 n)
def mD (a0 : aB) : Option Bool := c5 1000000 a0
def g9 (a0 : aB) : Option Bool :=
 (d4 a0 60).bind fun x1 =>
 (f6 (decide (x1 <= 60)) (mD a0)).bind fun x2 =>
 (f6 (bif (decide (x1 <= 60)) then x2 else false) (jW a0)).bind fun x3 =>
 some (bif (bif (decide (x1 <= 60)) then x2 else false) then (decide (x3 <= 16)) else false)
def dQ (aNC : aB -> aB -> Option Bool) (a0 : aB) (a1 : aB) (s1 : Int) : Option (Int ⊕ Bool) :=
 bif (decide (s1 < (a0.Kids.length : Int))) then
  (idx a0.Kids s1).bind fun x2 =>
  (idx a1.Kids s1).bind fun x3 =>
  (aNC x2 x3).bind fun x4 =>
  bif (!x4) then
   some (.inr false)
  else
   some (.inl (IntKind.i64.wrap (s1 + 1)))
 else
  some (.inr true)
def gL (aNC : aB -> aB -> Option Bool) (a0 : aB) (a1 : aB) : Option Bool :=
 bif (bif (bif (bif (bif (a0.Kind != a1.Kind) then true else (a0.N != a1.N)) then true else (!(a0.Text == a1.Text))) then true else (!(a0.Sign == a1.Sign))) then true else ((a0.Kids.length : Int) != (a1.Kids.length : Int))) then
  some false
 else
  aR (dQ aNC a0 a1) 0
def c6 : Nat -> aB -> aB -> Option Bool
 | 0 => fun _ _ => none
 | n + 1 => gL (c6 n)
def mE (a0 : aB) (a1 : aB) : Option Bool := c6 1000000 a0 a1
def oK (a0 : aB) : Option (aA × Int) :=
 (lY a0).bind fun x1 =>
 bif (!x1) then
  some (([] : aA), 1)
 else
  (qA a0).bind fun x2 =>
  some (x2, 0)
def eT (a0 : aB) (a1 : aA) : Option Bool :=
 (slc a1 0 (imin (a1.length : Int) 410)).bind fun x1 =>
 (oJ x1).bind fun x2 =>
 (gZ x1).bind fun x3 =>
 (mE x2.1 x3.1).bind fun x4 =>
 (f6 (!(bif (!x4) then true else (x2.2 != x3.2))) fN).bind fun x5 =>
 bif (bif (bif (!x4) then true else (x2.2 != x3.2)) then true else (!x5)) then
  some false
 else
  (oK a0).bind fun x6 =>
  (d4 a0 60).bind fun x7 =>
  (f6 (!(decide (x7 > 60))) (g9 a0)).bind fun x8 =>
  bif (bif (decide (x7 > 60)) then true else (!x8)) then
   (lY a0).bind fun x9 =>
   some (bif (bif (!x9) then (x6.2 == 1) else false) then (x6.1 == ([] : aA)) else false)
  else
   (lY a0).bind fun x10 =>
   (f6 (bif x10 then (x6.2 == 0) else false) (jD a0)).bind fun x11 =>
   some (bif (bif x10 then (x6.2 == 0) else false) then (x6.1 == x11) else false)
end
end Go.Proofs.YtdobepgddhbncaaGreatDoor