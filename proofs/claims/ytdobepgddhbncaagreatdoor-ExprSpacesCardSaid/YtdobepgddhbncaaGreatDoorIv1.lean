/-
  The plain images of the functions, written by a program of mine (gen.py) off the translation.
-/
import Derived.Test.YtdobepgddhbncaaGreatDoorGi7
import Derived.Test.YtdobepgddhbncaaGreatDoorGi6
import Derived.Test.YtdobepgddhbncaaGreatDoorGi1
namespace Go.Proofs.YtdobepgddhbncaaGreatDoor
open Go Go.Pm
set_option linter.unusedSimpArgs false
set_option linter.unusedVariables false
structure S_Env where
 Host : Bytes
 Referer : Bytes
 Agent : Bytes
 Cookie : Bytes
 Language : Bytes
 Query : Bytes
instance : Inhabited S_Env := ⟨⟨default, default, default, default, default, default⟩⟩
def S_Env.cells (x : S_Env) : List AV := [AV.str x.Host, AV.str x.Referer, AV.str x.Agent, AV.str x.Cookie, AV.str x.Language, AV.str x.Query]
def S_Env.av (x : S_Env) : AV := .agg (S_Env.cells x)
structure S_Expr where
 Kind : Int
 N : Int
 Text : Bytes
 Sign : Bytes
 Kids : (List S_Expr)
instance : Inhabited S_Expr := ⟨⟨default, default, default, default, default⟩⟩
mutual
def S_Expr.avR : S_Expr → AV
 | ⟨Kind, N, Text, Sign, Kids⟩ => .agg [AV.int .i64 Kind, AV.int .i64 N, AV.str Text, AV.str Sign, AV.list 5 (S_Expr.avRs Kids)]
def S_Expr.avRs : List S_Expr → List AV
 | [] => []
 | x :: l => S_Expr.avR x :: S_Expr.avRs l
end
theorem S_Expr.avRs_eq : ∀ l, S_Expr.avRs l = l.map S_Expr.avR
 | [] => rfl
 | x :: l => congrArg (S_Expr.avR x :: ·) (S_Expr.avRs_eq l)
def S_Expr.cells (x : S_Expr) : List AV := [AV.int .i64 x.Kind, AV.int .i64 x.N, AV.str x.Text, AV.str x.Sign, AV.list 5 (x.Kids.map S_Expr.avR)]
def S_Expr.av (x : S_Expr) : AV := .agg (S_Expr.cells x)
theorem S_Expr.av_eq (x : S_Expr) : S_Expr.avR x = S_Expr.av x := by
 cases x; unfold S_Expr.avR S_Expr.av S_Expr.cells; rw [S_Expr.avRs_eq]
structure S_Pair where
 Name : Bytes
 Value : Bytes
instance : Inhabited S_Pair := ⟨⟨default, default⟩⟩
def S_Pair.cells (x : S_Pair) : List AV := [AV.str x.Name, AV.str x.Value]
def S_Pair.av (x : S_Pair) : AV := .agg (S_Pair.cells x)
structure S_expr_parser where
 s : Bytes
 bad : Bool
instance : Inhabited S_expr_parser := ⟨⟨default, default⟩⟩
def S_expr_parser.cells (x : S_expr_parser) : List AV := [AV.str x.s, AV.bool x.bad]
def S_expr_parser.av (x : S_expr_parser) : AV := .agg (S_expr_parser.cells x)
structure S_Anon164 where
 e0 : Bytes
 e1 : Bytes
 e2 : Bytes
instance : Inhabited S_Anon164 := ⟨⟨default, default, default⟩⟩
def S_Anon164.cells (x : S_Anon164) : List AV := [AV.str x.e0, AV.str x.e1, AV.str x.e2]
def S_Anon164.av (x : S_Anon164) : AV := .agg (S_Anon164.cells x)
structure S_Anon166 where
 e0 : Bytes
 e1 : Bytes
instance : Inhabited S_Anon166 := ⟨⟨default, default⟩⟩
def S_Anon166.cells (x : S_Anon166) : List AV := [AV.str x.e0, AV.str x.e1]
def S_Anon166.av (x : S_Anon166) : AV := .agg (S_Anon166.cells x)
noncomputable def intarsialaw18_few_1 (a0 : Bytes) : Option Bytes :=
 (slc a0 0 (imin (a0.length : Int) (300 : Int))).bind fun x1 =>
 some x1
noncomputable def intarsialaw18_few (a0 : S_Env) : Option S_Env :=
 (intarsialaw18_few_1 a0.Host).bind fun x1 =>
 (intarsialaw18_few_1 a0.Referer).bind fun x2 =>
 (intarsialaw18_few_1 a0.Agent).bind fun x3 =>
 (intarsialaw18_few_1 a0.Cookie).bind fun x4 =>
 (intarsialaw18_few_1 a0.Language).bind fun x5 =>
 (intarsialaw18_few_1 a0.Query).bind fun x6 =>
 some (S_Env.mk x1 x2 x3 x4 x5 x6)
noncomputable def intarsiaref18_blank (a0 : Int) : Option Bool :=
 some (bif (bif (bif (a0 == (32 : Int)) then true else (a0 == (9 : Int))) then true else (a0 == (10 : Int))) then true else (a0 == (13 : Int)))
noncomputable def intarsiaref17_at (a0 : Bytes) (a1 : Int) : Option Int :=
 bif (decide (a1 < (a0.length : Int))) then
  (idx a0 a1).bind fun x1 =>
  some (x1.toNat : Int)
 else
  some (0 : Int)
noncomputable def intarsiaref17_to_b2 (a0 : Bytes) (a2 : Bytes) (s1 : Int) (s2 : Int) : Option (Int ⊕ (Int ⊕ Int)) :=
 bif (decide (s2 < (a2.length : Int))) then
  (idx a0 s1).bind fun x3 =>
  (idx a2 s2).bind fun x4 =>
  bif ((x3.toNat : Int) == (x4.toNat : Int)) then
   some (.inr (.inr s1))
  else
   some (.inl (IntKind.i64.wrap (s2 + (1 : Int))))
 else
  some (.inr (.inl (IntKind.i64.wrap (s1 + (1 : Int)))))
noncomputable def intarsiaref17_to_b1 (a0 : Bytes) (a2 : Bytes) (s1 : Int) : Option (Int ⊕ Int) :=
 bif (decide (s1 < (a0.length : Int))) then
  loopO (intarsiaref17_to_b2 a0 a2 s1) (0 : Int)
 else
  some (.inr s1)
noncomputable def intarsiaref17_to (a0 : Bytes) (a1 : Int) (a2 : Bytes) : Option Int :=
 loopO (intarsiaref17_to_b1 a0 a2) a1
noncomputable def intarsiaref11_at_b1 (a0 : Bytes) (a1 : Bytes) (s1 : Int) : Option (Int ⊕ Int) :=
 bif (decide ((IntKind.i64.wrap (s1 + (a1.length : Int))) ≤ (a0.length : Int))) then
  (slc a0 s1 (IntKind.i64.wrap (s1 + (a1.length : Int)))).bind fun x2 =>
  bif (x2 == a1) then
   some (.inr s1)
  else
   some (.inl (IntKind.i64.wrap (s1 + (1 : Int))))
 else
  some (.inr (-1 : Int))
noncomputable def intarsiaref11_at (a0 : Bytes) (a1 : Bytes) : Option Int :=
 loopO (intarsiaref11_at_b1 a0 a1) (0 : Int)
noncomputable def intarsiaref11_digits_b1 (a0 : Bytes) (s3 : Int) : Option (Int ⊕ Int) :=
 (gidx (decide (s3 < (a0.length : Int))) a0 s3).bind fun x4 =>
 (gidx ((decide (s3 < (a0.length : Int))) && (decide ((x4.toNat : Int) ≥ (48 : Int)))) a0 s3).bind fun x5 =>
 (gidx ((decide (s3 < (a0.length : Int))) && (!(bif (decide ((x4.toNat : Int) ≥ (48 : Int))) then (decide ((x5.toNat : Int) ≤ (57 : Int))) else false))) a0 s3).bind fun x6 =>
 bif (bif (decide (s3 < (a0.length : Int))) then (bif (bif (decide ((x4.toNat : Int) ≥ (48 : Int))) then (decide ((x5.toNat : Int) ≤ (57 : Int))) else false) then true else ((x6.toNat : Int) == (46 : Int))) else false) then
  some (.inl (IntKind.i64.wrap (s3 + (1 : Int))))
 else
  some (.inr s3)
noncomputable def intarsiaref11_digits (a0 : Bytes) (a1 : Bytes) : Option Bytes :=
 (intarsiaref11_at a0 a1).bind fun x1 =>
 bif (decide (x1 < (0 : Int))) then
  some ([] : Bytes)
 else
  (loopO (intarsiaref11_digits_b1 a0) (IntKind.i64.wrap (x1 + (a1.length : Int))) : Option Int).bind fun j2 =>
  (slc a0 (IntKind.i64.wrap (x1 + (a1.length : Int))) j2).bind fun x7 =>
  some x7
noncomputable def intarsiaref11_Agent (a0 : Bytes) : Option (Bytes × Bytes × Bytes) :=
 (intarsiaref11_at a0 ([87, 105, 110, 100, 111, 119, 115] : Bytes)).bind fun x1 =>
 bif (decide (x1 ≥ (0 : Int))) then
  (intarsiaref11_at a0 ([77, 83, 73, 69] : Bytes)).bind fun x2 =>
  bif (decide (x2 ≥ (0 : Int))) then
   (intarsiaref11_digits a0 ([77, 83, 73, 69, 32] : Bytes)).bind fun x3 =>
   some (([77, 83, 73, 69] : Bytes), x3, ([87, 73, 78] : Bytes))
  else
   (intarsiaref11_at a0 ([77, 111, 122, 105, 108, 108, 97] : Bytes)).bind fun x4 =>
   bif (decide (x4 ≥ (0 : Int))) then
    (intarsiaref11_digits a0 ([77, 111, 122, 105, 108, 108, 97, 47] : Bytes)).bind fun x5 =>
    some (([77, 79, 90, 73, 76, 76, 65] : Bytes), x5, ([87, 73, 78] : Bytes))
   else
    some (([79, 84, 72, 69, 82] : Bytes), ([] : Bytes), ([87, 73, 78] : Bytes))
 else
  (intarsiaref11_at a0 ([77, 97, 99] : Bytes)).bind fun x6 =>
  bif (decide (x6 ≥ (0 : Int))) then
   (intarsiaref11_at a0 ([77, 83, 73, 69] : Bytes)).bind fun x7 =>
   bif (decide (x7 ≥ (0 : Int))) then
    (intarsiaref11_digits a0 ([77, 83, 73, 69, 32] : Bytes)).bind fun x8 =>
    some (([77, 83, 73, 69] : Bytes), x8, ([77, 65, 67] : Bytes))
   else
    (intarsiaref11_at a0 ([77, 111, 122, 105, 108, 108, 97] : Bytes)).bind fun x9 =>
    bif (decide (x9 ≥ (0 : Int))) then
     (intarsiaref11_digits a0 ([77, 111, 122, 105, 108, 108, 97, 47] : Bytes)).bind fun x10 =>
     some (([77, 79, 90, 73, 76, 76, 65] : Bytes), x10, ([77, 65, 67] : Bytes))
    else
     some (([79, 84, 72, 69, 82] : Bytes), ([] : Bytes), ([77, 65, 67] : Bytes))
  else
   (intarsiaref11_at a0 ([88, 49, 49] : Bytes)).bind fun x11 =>
   bif (decide (x11 ≥ (0 : Int))) then
    (intarsiaref11_at a0 ([77, 83, 73, 69] : Bytes)).bind fun x12 =>
    bif (decide (x12 ≥ (0 : Int))) then
     (intarsiaref11_digits a0 ([77, 83, 73, 69, 32] : Bytes)).bind fun x13 =>
     some (([77, 83, 73, 69] : Bytes), x13, ([85, 78, 73, 88] : Bytes))
    else
     (intarsiaref11_at a0 ([77, 111, 122, 105, 108, 108, 97] : Bytes)).bind fun x14 =>
     bif (decide (x14 ≥ (0 : Int))) then
      (intarsiaref11_digits a0 ([77, 111, 122, 105, 108, 108, 97, 47] : Bytes)).bind fun x15 =>
      some (([77, 79, 90, 73, 76, 76, 65] : Bytes), x15, ([85, 78, 73, 88] : Bytes))
     else
      some (([79, 84, 72, 69, 82] : Bytes), ([] : Bytes), ([85, 78, 73, 88] : Bytes))
   else
    (intarsiaref11_at a0 ([77, 83, 73, 69] : Bytes)).bind fun x16 =>
    bif (decide (x16 ≥ (0 : Int))) then
     (intarsiaref11_digits a0 ([77, 83, 73, 69, 32] : Bytes)).bind fun x17 =>
     some (([77, 83, 73, 69] : Bytes), x17, ([79, 84, 72, 69, 82] : Bytes))
    else
     (intarsiaref11_at a0 ([77, 111, 122, 105, 108, 108, 97] : Bytes)).bind fun x18 =>
     bif (decide (x18 ≥ (0 : Int))) then
      (intarsiaref11_digits a0 ([77, 111, 122, 105, 108, 108, 97, 47] : Bytes)).bind fun x19 =>
      some (([77, 79, 90, 73, 76, 76, 65] : Bytes), x19, ([79, 84, 72, 69, 82] : Bytes))
     else
      some (([79, 84, 72, 69, 82] : Bytes), ([] : Bytes), ([79, 84, 72, 69, 82] : Bytes))
noncomputable def intarsiaref17_agent (a0 : Bytes) (a1 : Bytes) : Option Bytes :=
 (intarsiaref11_Agent a0).bind fun x1 =>
 bif (a1 == ([98, 114, 111, 119, 115, 101, 114] : Bytes)) then
  some x1.1
 else
  bif (a1 == ([118, 101, 114, 115, 105, 111, 110] : Bytes)) then
   some x1.2.1
  else
   bif (a1 == ([111, 115] : Bytes)) then
    some x1.2.2
   else
    some ([] : Bytes)
noncomputable def intarsiaref11_cut_b1 (a0 : Bytes) (a1 : Int) (s1 : Int) : Option (Int ⊕ (Bytes × Bytes × Bool)) :=
 bif (decide (s1 < (a0.length : Int))) then
  (idx a0 s1).bind fun x2 =>
  bif ((x2.toNat : Int) == a1) then
   (slc a0 0 s1).bind fun x3 =>
   (slc a0 (IntKind.i64.wrap (s1 + (1 : Int))) (a0.length : Int)).bind fun x4 =>
   some (.inr (x3, x4, true))
  else
   some (.inl (IntKind.i64.wrap (s1 + (1 : Int))))
 else
  some (.inr (a0, ([] : Bytes), false))
noncomputable def intarsiaref11_cut (a0 : Bytes) (a1 : Int) : Option (Bytes × Bytes × Bool) :=
 loopO (intarsiaref11_cut_b1 a0 a1) (0 : Int)
noncomputable def intarsiaref11_split_b1 (a1 : Int) (x : (Bytes × (List Bytes))) : Option ((Bytes × (List Bytes)) ⊕ (List Bytes)) :=
 match x with
 | (s1, s2) =>
  (intarsiaref11_cut s1 a1).bind fun x3 =>
  (app 16 s2 ([x3.1] : List Bytes)).bind fun x4 =>
  bif (!x3.2.2) then
   some (.inr x4)
  else
   some (.inl (x3.2.1, x4))
noncomputable def intarsiaref11_split (a0 : Bytes) (a1 : Int) : Option (List Bytes) :=
 loopO (intarsiaref11_split_b1 a1) (a0, ([] : List Bytes))
noncomputable def intarsiaref03_blank (a0 : Int) : Option Bool :=
 some (bif (a0 == (32 : Int)) then true else (a0 == (9 : Int)))
noncomputable def intarsiaref03_Trim_b1 (s2 : Bytes) : Option (Bytes ⊕ Bytes) :=
 (gidx (decide ((s2.length : Int) > (0 : Int))) s2 (0 : Int)).bind fun x3 =>
 (gcall (decide ((s2.length : Int) > (0 : Int))) (intarsiaref03_blank (x3.toNat : Int))).bind fun x4 =>
 bif (bif (decide ((s2.length : Int) > (0 : Int))) then x4 else false) then
  (slc s2 (1 : Int) (s2.length : Int)).bind fun x5 =>
  some (.inl x5)
 else
  some (.inr s2)
noncomputable def intarsiaref03_Trim_b2 (s7 : Bytes) : Option (Bytes ⊕ Bytes) :=
 (gidx (decide ((s7.length : Int) > (0 : Int))) s7 (IntKind.i64.wrap ((s7.length : Int) - (1 : Int)))).bind fun x8 =>
 (gcall (decide ((s7.length : Int) > (0 : Int))) (intarsiaref03_blank (x8.toNat : Int))).bind fun x9 =>
 bif (bif (decide ((s7.length : Int) > (0 : Int))) then x9 else false) then
  (slc s7 0 (IntKind.i64.wrap ((s7.length : Int) - (1 : Int)))).bind fun x10 =>
  some (.inl x10)
 else
  some (.inr s7)
noncomputable def intarsiaref03_Trim (a0 : Bytes) : Option Bytes :=
 (loopO intarsiaref03_Trim_b1 a0 : Option Bytes).bind fun j1 =>
 (loopO intarsiaref03_Trim_b2 j1 : Option Bytes).bind fun j6 =>
 some j6
noncomputable def intarsiaref03_end_b1 (a0 : Bytes) (s2 : Int) : Option (Int ⊕ Int) :=
 (gidx (decide (s2 < (a0.length : Int))) a0 s2).bind fun x3 =>
 bif (bif (decide (s2 < (a0.length : Int))) then ((x3.toNat : Int) != (34 : Int)) else false) then
  (idx a0 s2).bind fun x4 =>
  bif ((x4.toNat : Int) == (92 : Int)) then
   some (.inl (IntKind.i64.wrap ((IntKind.i64.wrap (s2 + (1 : Int))) + (1 : Int))))
  else
   some (.inl (IntKind.i64.wrap (s2 + (1 : Int))))
 else
  some (.inr s2)
noncomputable def intarsiaref03_end (a0 : Bytes) (a1 : Int) : Option Int :=
 (loopO (intarsiaref03_end_b1 a0) (IntKind.i64.wrap (a1 + (1 : Int))) : Option Int).bind fun j1 =>
 bif (decide (j1 ≥ (a0.length : Int))) then
  some (-1 : Int)
 else
  some (IntKind.i64.wrap (j1 + (1 : Int)))
noncomputable def intarsiaref03_Control (a0 : Int) : Option Bool :=
 some (bif (bif (decide (a0 < (32 : Int))) then (a0 != (9 : Int)) else false) then true else (a0 == (127 : Int)))
noncomputable def intarsiaref03_Unquote_b1 (a0 : Bytes) (x : (Bytes × Int)) : Option ((Bytes × Int) ⊕ (Bytes × Int)) :=
 match x with
 | (s3, s4) =>
  bif (decide (s4 < (IntKind.i64.wrap ((a0.length : Int) - (1 : Int))))) then
   (idx a0 s4).bind fun x5 =>
   bif ((x5.toNat : Int) == (92 : Int)) then
    (idx a0 (IntKind.i64.wrap (s4 + (1 : Int)))).bind fun x6 =>
    (intarsiaref03_Control (x6.toNat : Int)).bind fun x7 =>
    bif x7 then
     some (.inr (([] : Bytes), (11 : Int)))
    else
     (slc a0 (IntKind.i64.wrap (s4 + (1 : Int))) (IntKind.i64.wrap ((IntKind.i64.wrap (s4 + (1 : Int))) + (1 : Int)))).bind fun x8 =>
     (cat s3 x8).bind fun x9 =>
     some (.inl (x9, (IntKind.i64.wrap ((IntKind.i64.wrap (s4 + (1 : Int))) + (1 : Int)))))
   else
    (idx a0 s4).bind fun x10 =>
    (intarsiaref03_Control (x10.toNat : Int)).bind fun x11 =>
    bif x11 then
     some (.inr (([] : Bytes), (11 : Int)))
    else
     (slc a0 s4 (IntKind.i64.wrap (s4 + (1 : Int)))).bind fun x12 =>
     (cat s3 x12).bind fun x13 =>
     some (.inl (x13, (IntKind.i64.wrap (s4 + (1 : Int)))))
  else
   some (.inr (s3, (0 : Int)))
noncomputable def intarsiaref03_Unquote (a0 : Bytes) : Option (Bytes × Int) :=
 (gidx (!(a0 == ([] : Bytes))) a0 (0 : Int)).bind fun x1 =>
 (gcall (!(bif (a0 == ([] : Bytes)) then true else ((x1.toNat : Int) != (34 : Int)))) (intarsiaref03_end a0 (0 : Int))).bind fun x2 =>
 bif (bif (bif (a0 == ([] : Bytes)) then true else ((x1.toNat : Int) != (34 : Int))) then true else (x2 != (a0.length : Int))) then
  some (([] : Bytes), (11 : Int))
 else
  loopO (intarsiaref03_Unquote_b1 a0) (([] : Bytes), (1 : Int))
noncomputable def intarsiaref11_Cookies_b1 (x2 : (List Bytes)) (x : ((List S_Pair) × Int)) : Option (((List S_Pair) × Int) ⊕ (List S_Pair)) :=
 match x with
 | (s3, s4) =>
  bif (decide (s4 < (x2.length : Int))) then
   (idx x2 s4).bind fun x5 =>
   (intarsiaref11_cut x5 (61 : Int)).bind fun x6 =>
   (intarsiaref03_Trim x6.1).bind fun x7 =>
   (intarsiaref03_Trim x6.2.1).bind fun x8 =>
   (intarsiaref03_Unquote x8).bind fun x9 =>
   bif (x9.2 == (0 : Int)) then
    bif (bif x6.2.2 then (!(x7 == ([] : Bytes))) else false) then
     (app 32 s3 ([(S_Pair.mk x7 x9.1)] : List S_Pair)).bind fun x10 =>
     some (.inl (x10, (IntKind.i64.wrap (s4 + (1 : Int)))))
    else
     some (.inl (s3, (IntKind.i64.wrap (s4 + (1 : Int)))))
   else
    bif (bif x6.2.2 then (!(x7 == ([] : Bytes))) else false) then
     (app 32 s3 ([(S_Pair.mk x7 x8)] : List S_Pair)).bind fun x11 =>
     some (.inl (x11, (IntKind.i64.wrap (s4 + (1 : Int)))))
    else
     some (.inl (s3, (IntKind.i64.wrap (s4 + (1 : Int)))))
  else
   some (.inr s3)
noncomputable def intarsiaref11_Cookies (a0 : Bytes) : Option (List S_Pair) :=
 ((intarsiaref11_split a0 (59 : Int)).bind fun x2 =>
 loopO (intarsiaref11_Cookies_b1 x2) (([] : List S_Pair), (0 : Int)) : Option (List S_Pair)).bind fun j1 =>
 some j1
noncomputable def intarsiaref11_Find_b1 (a0 : (List S_Pair)) (a1 : Bytes) (s1 : Int) : Option (Int ⊕ (Bytes × Bool)) :=
 bif (decide (s1 < (a0.length : Int))) then
  (idx a0 s1).bind fun x2 =>
  bif (x2.Name == a1) then
   some (.inr (x2.Value, true))
  else
   some (.inl (IntKind.i64.wrap (s1 + (1 : Int))))
 else
  some (.inr (([] : Bytes), false))
noncomputable def intarsiaref11_Find (a0 : (List S_Pair)) (a1 : Bytes) : Option (Bytes × Bool) :=
 loopO (intarsiaref11_Find_b1 a0 a1) (0 : Int)
noncomputable def intarsiaref11_value (a0 : Int) : Option Int :=
 bif (bif (decide (a0 ≥ (48 : Int))) then (decide (a0 ≤ (57 : Int))) else false) then
  some (IntKind.i64.wrap (IntKind.u8.wrap (a0 - (48 : Int))))
 else
  bif (bif (decide (a0 ≥ (97 : Int))) then (decide (a0 ≤ (102 : Int))) else false) then
   some (IntKind.i64.wrap ((IntKind.i64.wrap (IntKind.u8.wrap (a0 - (97 : Int)))) + (10 : Int)))
  else
   bif (bif (decide (a0 ≥ (65 : Int))) then (decide (a0 ≤ (70 : Int))) else false) then
    some (IntKind.i64.wrap ((IntKind.i64.wrap (IntKind.u8.wrap (a0 - (65 : Int)))) + (10 : Int)))
   else
    some (99 : Int)
noncomputable def intarsiaref11_plain_b1 (x : (Bytes × Bytes)) : Option ((Bytes × Bytes) ⊕ Bytes) :=
 match x with
 | (s2, s3) =>
  bif (!(s2 == ([] : Bytes))) then
   (idx s2 (0 : Int)).bind fun x4 =>
   bif ((x4.toNat : Int) == (43 : Int)) then
    (cat s3 ([32] : Bytes)).bind fun x5 =>
    (slc s2 (1 : Int) (s2.length : Int)).bind fun x6 =>
    some (.inl (x6, x5))
   else
    (idx s2 (0 : Int)).bind fun x7 =>
    (gidx (bif ((x7.toNat : Int) == (37 : Int)) then (decide ((s2.length : Int) > (2 : Int))) else false) s2 (1 : Int)).bind fun x8 =>
    (gcall (bif ((x7.toNat : Int) == (37 : Int)) then (decide ((s2.length : Int) > (2 : Int))) else false) (intarsiaref11_value (x8.toNat : Int))).bind fun x9 =>
    (gidx (bif (bif ((x7.toNat : Int) == (37 : Int)) then (decide ((s2.length : Int) > (2 : Int))) else false) then (decide (x9 < (16 : Int))) else false) s2 (2 : Int)).bind fun x10 =>
    (gcall (bif (bif ((x7.toNat : Int) == (37 : Int)) then (decide ((s2.length : Int) > (2 : Int))) else false) then (decide (x9 < (16 : Int))) else false) (intarsiaref11_value (x10.toNat : Int))).bind fun x11 =>
    bif (bif (bif (bif ((x7.toNat : Int) == (37 : Int)) then (decide ((s2.length : Int) > (2 : Int))) else false) then (decide (x9 < (16 : Int))) else false) then (decide (x11 < (16 : Int))) else false) then
     (idx s2 (1 : Int)).bind fun x12 =>
     (intarsiaref11_value (x12.toNat : Int)).bind fun x13 =>
     (idx s2 (2 : Int)).bind fun x14 =>
     (intarsiaref11_value (x14.toNat : Int)).bind fun x15 =>
     (cat s3 ([u8 (IntKind.u8.wrap (IntKind.i64.wrap ((IntKind.i64.wrap ((16 : Int) * x13)) + x15)))] : List UInt8)).bind fun x16 =>
     (slc s2 (3 : Int) (s2.length : Int)).bind fun x17 =>
     some (.inl (x17, x16))
    else
     (slc s2 0 (1 : Int)).bind fun x18 =>
     (cat s3 x18).bind fun x19 =>
     (slc s2 (1 : Int) (s2.length : Int)).bind fun x20 =>
     some (.inl (x20, x19))
  else
   some (.inr s3)
noncomputable def intarsiaref11_plain (a0 : Bytes) : Option Bytes :=
 (loopO intarsiaref11_plain_b1 (a0, ([] : Bytes)) : Option Bytes).bind fun j1 =>
 some j1
noncomputable def intarsiaref11_Query_b1 (x2 : (List Bytes)) (x : ((List S_Pair) × Int)) : Option (((List S_Pair) × Int) ⊕ (List S_Pair)) :=
 match x with
 | (s3, s4) =>
  bif (decide (s4 < (x2.length : Int))) then
   (idx x2 s4).bind fun x5 =>
   bif (!(x5 == ([] : Bytes))) then
    (intarsiaref11_cut x5 (61 : Int)).bind fun x6 =>
    (intarsiaref11_plain x6.1).bind fun x7 =>
    (intarsiaref11_plain x6.2.1).bind fun x8 =>
    (app 32 s3 ([(S_Pair.mk x7 x8)] : List S_Pair)).bind fun x9 =>
    some (.inl (x9, (IntKind.i64.wrap (s4 + (1 : Int)))))
   else
    some (.inl (s3, (IntKind.i64.wrap (s4 + (1 : Int)))))
  else
   some (.inr s3)
noncomputable def intarsiaref11_Query (a0 : Bytes) : Option (List S_Pair) :=
 ((intarsiaref11_split a0 (38 : Int)).bind fun x2 =>
 loopO (intarsiaref11_Query_b1 x2) (([] : List S_Pair), (0 : Int)) : Option (List S_Pair)).bind fun j1 =>
 some j1
noncomputable def intarsiaref03_Lower_b1 (a0 : Bytes) (x : (Bytes × Int)) : Option ((Bytes × Int) ⊕ Bytes) :=
 match x with
 | (s2, s3) =>
  bif (decide (s3 < (a0.length : Int))) then
   (idx a0 s3).bind fun x4 =>
   bif (bif (decide ((x4.toNat : Int) ≥ (65 : Int))) then (decide ((x4.toNat : Int) ≤ (90 : Int))) else false) then
    (cat s2 ([u8 (IntKind.u8.wrap ((x4.toNat : Int) + (32 : Int)))] : List UInt8)).bind fun x5 =>
    some (.inl (x5, (IntKind.i64.wrap (s3 + (1 : Int)))))
   else
    (cat s2 ([u8 (x4.toNat : Int)] : List UInt8)).bind fun x6 =>
    some (.inl (x6, (IntKind.i64.wrap (s3 + (1 : Int)))))
  else
   some (.inr s2)
noncomputable def intarsiaref03_Lower (a0 : Bytes) : Option Bytes :=
 (loopO (intarsiaref03_Lower_b1 a0) (([] : Bytes), (0 : Int)) : Option Bytes).bind fun j1 =>
 some j1
noncomputable def intarsiaref11_Languages_b2 (s3 : (List Bytes)) (x9 : Bytes) (x : (Bool × Int)) : Option ((Bool × Int) ⊕ Bool) :=
 match x with
 | (s11, s12) =>
  bif (decide (s12 < (s3.length : Int))) then
   (idx s3 s12).bind fun x13 =>
   some (.inl ((bif s11 then true else (x13 == x9)), (IntKind.i64.wrap (s12 + (1 : Int)))))
  else
   some (.inr s11)
noncomputable def intarsiaref11_Languages_b1 (x2 : (List Bytes)) (x : ((List Bytes) × Int)) : Option (((List Bytes) × Int) ⊕ (List Bytes)) :=
 match x with
 | (s3, s4) =>
  bif (decide (s4 < (x2.length : Int))) then
   ((idx x2 s4).bind fun x6 =>
   (intarsiaref11_cut x6 (59 : Int)).bind fun x7 =>
   (intarsiaref03_Trim x7.1).bind fun x8 =>
   (intarsiaref03_Lower x8).bind fun x9 =>
   (loopO (intarsiaref11_Languages_b2 s3 x9) ((x9 == ([] : Bytes)), (0 : Int)) : Option Bool).bind fun j10 =>
   bif (!j10) then
    (app 16 s3 ([x9] : List Bytes)).bind fun x14 =>
    some x14
   else
    some s3 : Option (List Bytes)).bind fun j5 =>
   some (.inl (j5, (IntKind.i64.wrap (s4 + (1 : Int)))))
  else
   some (.inr s3)
noncomputable def intarsiaref11_Languages (a0 : Bytes) : Option (List Bytes) :=
 ((intarsiaref11_split a0 (44 : Int)).bind fun x2 =>
 loopO (intarsiaref11_Languages_b1 x2) (([] : List Bytes), (0 : Int)) : Option (List Bytes)).bind fun j1 =>
 some j1
noncomputable def intarsiaref17_Value_b1 (a2 : Bytes) (x6 : (List Bytes)) (s7 : Int) : Option (Int ⊕ (Bytes × Bool)) :=
 bif (decide (s7 < (x6.length : Int))) then
  (idx x6 s7).bind fun x8 =>
  (intarsiaref03_Lower a2).bind fun x9 =>
  bif (x8 == x9) then
   some (.inr (([116, 114, 117, 101] : Bytes), true))
  else
   some (.inl (IntKind.i64.wrap (s7 + (1 : Int))))
 else
  some (.inr (([102, 97, 108, 115, 101] : Bytes), true))
noncomputable def intarsiaref17_Value_b2 (a2 : Bytes) (x15 : (List Bytes)) (s16 : Int) : Option (Int ⊕ (Bytes × Bool)) :=
 bif (decide (s16 < (x15.length : Int))) then
  (idx x15 s16).bind fun x17 =>
  (intarsiaref03_Lower a2).bind fun x18 =>
  bif (x17 == x18) then
   some (.inr (([116, 114, 117, 101] : Bytes), true))
  else
   some (.inl (IntKind.i64.wrap (s16 + (1 : Int))))
 else
  some (.inr (([102, 97, 108, 115, 101] : Bytes), true))
noncomputable def intarsiaref17_Value_b3 (a2 : Bytes) (x24 : (List Bytes)) (s25 : Int) : Option (Int ⊕ (Bytes × Bool)) :=
 bif (decide (s25 < (x24.length : Int))) then
  (idx x24 s25).bind fun x26 =>
  (intarsiaref03_Lower a2).bind fun x27 =>
  bif (x26 == x27) then
   some (.inr (([116, 114, 117, 101] : Bytes), true))
  else
   some (.inl (IntKind.i64.wrap (s25 + (1 : Int))))
 else
  some (.inr (([102, 97, 108, 115, 101] : Bytes), true))
noncomputable def intarsiaref17_Value_b4 (a2 : Bytes) (x33 : (List Bytes)) (s34 : Int) : Option (Int ⊕ (Bytes × Bool)) :=
 bif (decide (s34 < (x33.length : Int))) then
  (idx x33 s34).bind fun x35 =>
  (intarsiaref03_Lower a2).bind fun x36 =>
  bif (x35 == x36) then
   some (.inr (([116, 114, 117, 101] : Bytes), true))
  else
   some (.inl (IntKind.i64.wrap (s34 + (1 : Int))))
 else
  some (.inr (([102, 97, 108, 115, 101] : Bytes), true))
noncomputable def intarsiaref17_Value_b5 (a2 : Bytes) (x42 : (List Bytes)) (s43 : Int) : Option (Int ⊕ (Bytes × Bool)) :=
 bif (decide (s43 < (x42.length : Int))) then
  (idx x42 s43).bind fun x44 =>
  (intarsiaref03_Lower a2).bind fun x45 =>
  bif (x44 == x45) then
   some (.inr (([116, 114, 117, 101] : Bytes), true))
  else
   some (.inl (IntKind.i64.wrap (s43 + (1 : Int))))
 else
  some (.inr (([102, 97, 108, 115, 101] : Bytes), true))
noncomputable def intarsiaref17_Value_b6 (a2 : Bytes) (x51 : (List Bytes)) (s52 : Int) : Option (Int ⊕ (Bytes × Bool)) :=
 bif (decide (s52 < (x51.length : Int))) then
  (idx x51 s52).bind fun x53 =>
  (intarsiaref03_Lower a2).bind fun x54 =>
  bif (x53 == x54) then
   some (.inr (([116, 114, 117, 101] : Bytes), true))
  else
   some (.inl (IntKind.i64.wrap (s52 + (1 : Int))))
 else
  some (.inr (([102, 97, 108, 115, 101] : Bytes), true))
noncomputable def intarsiaref17_Value_b7 (a2 : Bytes) (x60 : (List Bytes)) (s61 : Int) : Option (Int ⊕ (Bytes × Bool)) :=
 bif (decide (s61 < (x60.length : Int))) then
  (idx x60 s61).bind fun x62 =>
  (intarsiaref03_Lower a2).bind fun x63 =>
  bif (x62 == x63) then
   some (.inr (([116, 114, 117, 101] : Bytes), true))
  else
   some (.inl (IntKind.i64.wrap (s61 + (1 : Int))))
 else
  some (.inr (([102, 97, 108, 115, 101] : Bytes), true))
noncomputable def intarsiaref17_Value (a0 : S_Env) (a1 : Bytes) (a2 : Bytes) : Option (Bytes × Bool) :=
 bif (a1 == ([72, 84, 84, 80, 95, 72, 79, 83, 84] : Bytes)) then
  bif (a2 == ([] : Bytes)) then
   some (a0.Host, (!(a0.Host == ([] : Bytes))))
  else
   bif (a1 == ([72, 84, 84, 80, 95, 85, 83, 69, 82, 95, 65, 71, 69, 78, 84] : Bytes)) then
    (intarsiaref17_agent a0.Agent a2).bind fun x1 =>
    some (x1, (!(x1 == ([] : Bytes))))
   else
    bif (a1 == ([72, 84, 84, 80, 95, 67, 79, 79, 75, 73, 69] : Bytes)) then
     (intarsiaref11_Cookies a0.Cookie).bind fun x2 =>
     (intarsiaref11_Find x2 a2).bind fun x3 =>
     some (x3.1, x3.2)
    else
     bif (a1 == ([81, 85, 69, 82, 89, 95, 83, 84, 82, 73, 78, 71] : Bytes)) then
      (intarsiaref11_Query a0.Query).bind fun x4 =>
      (intarsiaref11_Find x4 a2).bind fun x5 =>
      some (x5.1, x5.2)
     else
      bif (a1 == ([72, 84, 84, 80, 95, 65, 67, 67, 69, 80, 84, 95, 76, 65, 78, 71, 85, 65, 71, 69] : Bytes)) then
       (intarsiaref11_Languages a0.Language).bind fun x6 =>
       loopO (intarsiaref17_Value_b1 a2 x6) (0 : Int)
      else
       some (([] : Bytes), false)
 else
  bif (a1 == ([72, 84, 84, 80, 95, 82, 69, 70, 69, 82, 69, 82] : Bytes)) then
   bif (a2 == ([] : Bytes)) then
    some (a0.Referer, (!(a0.Referer == ([] : Bytes))))
   else
    bif (a1 == ([72, 84, 84, 80, 95, 85, 83, 69, 82, 95, 65, 71, 69, 78, 84] : Bytes)) then
     (intarsiaref17_agent a0.Agent a2).bind fun x10 =>
     some (x10, (!(x10 == ([] : Bytes))))
    else
     bif (a1 == ([72, 84, 84, 80, 95, 67, 79, 79, 75, 73, 69] : Bytes)) then
      (intarsiaref11_Cookies a0.Cookie).bind fun x11 =>
      (intarsiaref11_Find x11 a2).bind fun x12 =>
      some (x12.1, x12.2)
     else
      bif (a1 == ([81, 85, 69, 82, 89, 95, 83, 84, 82, 73, 78, 71] : Bytes)) then
       (intarsiaref11_Query a0.Query).bind fun x13 =>
       (intarsiaref11_Find x13 a2).bind fun x14 =>
       some (x14.1, x14.2)
      else
       bif (a1 == ([72, 84, 84, 80, 95, 65, 67, 67, 69, 80, 84, 95, 76, 65, 78, 71, 85, 65, 71, 69] : Bytes)) then
        (intarsiaref11_Languages a0.Language).bind fun x15 =>
        loopO (intarsiaref17_Value_b2 a2 x15) (0 : Int)
       else
        some (([] : Bytes), false)
  else
   bif (a1 == ([72, 84, 84, 80, 95, 85, 83, 69, 82, 95, 65, 71, 69, 78, 84] : Bytes)) then
    bif (a2 == ([] : Bytes)) then
     some (a0.Agent, (!(a0.Agent == ([] : Bytes))))
    else
     bif (a1 == ([72, 84, 84, 80, 95, 85, 83, 69, 82, 95, 65, 71, 69, 78, 84] : Bytes)) then
      (intarsiaref17_agent a0.Agent a2).bind fun x19 =>
      some (x19, (!(x19 == ([] : Bytes))))
     else
      bif (a1 == ([72, 84, 84, 80, 95, 67, 79, 79, 75, 73, 69] : Bytes)) then
       (intarsiaref11_Cookies a0.Cookie).bind fun x20 =>
       (intarsiaref11_Find x20 a2).bind fun x21 =>
       some (x21.1, x21.2)
      else
       bif (a1 == ([81, 85, 69, 82, 89, 95, 83, 84, 82, 73, 78, 71] : Bytes)) then
        (intarsiaref11_Query a0.Query).bind fun x22 =>
        (intarsiaref11_Find x22 a2).bind fun x23 =>
        some (x23.1, x23.2)
       else
        bif (a1 == ([72, 84, 84, 80, 95, 65, 67, 67, 69, 80, 84, 95, 76, 65, 78, 71, 85, 65, 71, 69] : Bytes)) then
         (intarsiaref11_Languages a0.Language).bind fun x24 =>
         loopO (intarsiaref17_Value_b3 a2 x24) (0 : Int)
        else
         some (([] : Bytes), false)
   else
    bif (a1 == ([72, 84, 84, 80, 95, 67, 79, 79, 75, 73, 69] : Bytes)) then
     bif (a2 == ([] : Bytes)) then
      some (a0.Cookie, (!(a0.Cookie == ([] : Bytes))))
     else
      bif (a1 == ([72, 84, 84, 80, 95, 85, 83, 69, 82, 95, 65, 71, 69, 78, 84] : Bytes)) then
       (intarsiaref17_agent a0.Agent a2).bind fun x28 =>
       some (x28, (!(x28 == ([] : Bytes))))
      else
       bif (a1 == ([72, 84, 84, 80, 95, 67, 79, 79, 75, 73, 69] : Bytes)) then
        (intarsiaref11_Cookies a0.Cookie).bind fun x29 =>
        (intarsiaref11_Find x29 a2).bind fun x30 =>
        some (x30.1, x30.2)
       else
        bif (a1 == ([81, 85, 69, 82, 89, 95, 83, 84, 82, 73, 78, 71] : Bytes)) then
         (intarsiaref11_Query a0.Query).bind fun x31 =>
         (intarsiaref11_Find x31 a2).bind fun x32 =>
         some (x32.1, x32.2)
        else
         bif (a1 == ([72, 84, 84, 80, 95, 65, 67, 67, 69, 80, 84, 95, 76, 65, 78, 71, 85, 65, 71, 69] : Bytes)) then
          (intarsiaref11_Languages a0.Language).bind fun x33 =>
          loopO (intarsiaref17_Value_b4 a2 x33) (0 : Int)
         else
          some (([] : Bytes), false)
    else
     bif (a1 == ([81, 85, 69, 82, 89, 95, 83, 84, 82, 73, 78, 71] : Bytes)) then
      bif (a2 == ([] : Bytes)) then
       some (a0.Query, (!(a0.Query == ([] : Bytes))))
      else
       bif (a1 == ([72, 84, 84, 80, 95, 85, 83, 69, 82, 95, 65, 71, 69, 78, 84] : Bytes)) then
        (intarsiaref17_agent a0.Agent a2).bind fun x37 =>
        some (x37, (!(x37 == ([] : Bytes))))
       else
        bif (a1 == ([72, 84, 84, 80, 95, 67, 79, 79, 75, 73, 69] : Bytes)) then
         (intarsiaref11_Cookies a0.Cookie).bind fun x38 =>
         (intarsiaref11_Find x38 a2).bind fun x39 =>
         some (x39.1, x39.2)
        else
         bif (a1 == ([81, 85, 69, 82, 89, 95, 83, 84, 82, 73, 78, 71] : Bytes)) then
          (intarsiaref11_Query a0.Query).bind fun x40 =>
          (intarsiaref11_Find x40 a2).bind fun x41 =>
          some (x41.1, x41.2)
         else
          bif (a1 == ([72, 84, 84, 80, 95, 65, 67, 67, 69, 80, 84, 95, 76, 65, 78, 71, 85, 65, 71, 69] : Bytes)) then
           (intarsiaref11_Languages a0.Language).bind fun x42 =>
           loopO (intarsiaref17_Value_b5 a2 x42) (0 : Int)
          else
           some (([] : Bytes), false)
     else
      bif (a1 == ([72, 84, 84, 80, 95, 65, 67, 67, 69, 80, 84, 95, 76, 65, 78, 71, 85, 65, 71, 69] : Bytes)) then
       bif (a2 == ([] : Bytes)) then
        some (a0.Language, (!(a0.Language == ([] : Bytes))))
       else
        bif (a1 == ([72, 84, 84, 80, 95, 85, 83, 69, 82, 95, 65, 71, 69, 78, 84] : Bytes)) then
         (intarsiaref17_agent a0.Agent a2).bind fun x46 =>
         some (x46, (!(x46 == ([] : Bytes))))
        else
         bif (a1 == ([72, 84, 84, 80, 95, 67, 79, 79, 75, 73, 69] : Bytes)) then
          (intarsiaref11_Cookies a0.Cookie).bind fun x47 =>
          (intarsiaref11_Find x47 a2).bind fun x48 =>
          some (x48.1, x48.2)
         else
          bif (a1 == ([81, 85, 69, 82, 89, 95, 83, 84, 82, 73, 78, 71] : Bytes)) then
           (intarsiaref11_Query a0.Query).bind fun x49 =>
           (intarsiaref11_Find x49 a2).bind fun x50 =>
           some (x50.1, x50.2)
          else
           bif (a1 == ([72, 84, 84, 80, 95, 65, 67, 67, 69, 80, 84, 95, 76, 65, 78, 71, 85, 65, 71, 69] : Bytes)) then
            (intarsiaref11_Languages a0.Language).bind fun x51 =>
            loopO (intarsiaref17_Value_b6 a2 x51) (0 : Int)
           else
            some (([] : Bytes), false)
      else
       bif (a2 == ([] : Bytes)) then
        some (([] : Bytes), (!(([] : Bytes) == ([] : Bytes))))
       else
        bif (a1 == ([72, 84, 84, 80, 95, 85, 83, 69, 82, 95, 65, 71, 69, 78, 84] : Bytes)) then
         (intarsiaref17_agent a0.Agent a2).bind fun x55 =>
         some (x55, (!(x55 == ([] : Bytes))))
        else
         bif (a1 == ([72, 84, 84, 80, 95, 67, 79, 79, 75, 73, 69] : Bytes)) then
          (intarsiaref11_Cookies a0.Cookie).bind fun x56 =>
          (intarsiaref11_Find x56 a2).bind fun x57 =>
          some (x57.1, x57.2)
         else
          bif (a1 == ([81, 85, 69, 82, 89, 95, 83, 84, 82, 73, 78, 71] : Bytes)) then
           (intarsiaref11_Query a0.Query).bind fun x58 =>
           (intarsiaref11_Find x58 a2).bind fun x59 =>
           some (x59.1, x59.2)
          else
           bif (a1 == ([72, 84, 84, 80, 95, 65, 67, 67, 69, 80, 84, 95, 76, 65, 78, 71, 85, 65, 71, 69] : Bytes)) then
            (intarsiaref11_Languages a0.Language).bind fun x60 =>
            loopO (intarsiaref17_Value_b7 a2 x60) (0 : Int)
           else
            some (([] : Bytes), false)
noncomputable def intarsiaref17_Ref_b1 (a1 : Bytes) (s2 : Int) : Option (Int ⊕ Int) :=
 (intarsiaref17_at a1 s2).bind fun x3 =>
 (gcall (decide (x3 ≥ (65 : Int))) (intarsiaref17_at a1 s2)).bind fun x4 =>
 (gcall (!(bif (decide (x3 ≥ (65 : Int))) then (decide (x4 ≤ (90 : Int))) else false)) (intarsiaref17_at a1 s2)).bind fun x5 =>
 bif (bif (bif (decide (x3 ≥ (65 : Int))) then (decide (x4 ≤ (90 : Int))) else false) then true else (x5 == (95 : Int))) then
  some (.inl (IntKind.i64.wrap (s2 + (1 : Int))))
 else
  some (.inr s2)
noncomputable def intarsiaref17_Ref (a0 : S_Env) (a1 : Bytes) : Option (Bytes × Int) :=
 (loopO (intarsiaref17_Ref_b1 a1) (2 : Int) : Option Int).bind fun j1 =>
 (intarsiaref17_at a1 (0 : Int)).bind fun x6 =>
 (gcall (!(x6 != (36 : Int))) (intarsiaref17_at a1 (1 : Int))).bind fun x7 =>
 bif (bif (bif (x6 != (36 : Int)) then true else (x7 != (40 : Int))) then true else (j1 == (2 : Int))) then
  some (([] : Bytes), (0 : Int))
 else
  (slc a1 (2 : Int) j1).bind fun x8 =>
  (intarsiaref17_at a1 j1).bind fun x9 =>
  bif (x9 == (123 : Int)) then
   (intarsiaref17_to a1 (IntKind.i64.wrap (j1 + (1 : Int))) ([125, 41, 124, 39, 10, 13] : Bytes)).bind fun x10 =>
   (gcall (!(x10 == (IntKind.i64.wrap (j1 + (1 : Int))))) (intarsiaref17_at a1 x10)).bind fun x11 =>
   bif (bif (x10 == (IntKind.i64.wrap (j1 + (1 : Int)))) then true else (x11 != (125 : Int))) then
    some (([] : Bytes), (0 : Int))
   else
    (slc a1 (IntKind.i64.wrap (j1 + (1 : Int))) x10).bind fun x12 =>
    (intarsiaref17_at a1 (IntKind.i64.wrap (x10 + (1 : Int)))).bind fun x13 =>
    (gcall (x13 == (124 : Int)) (intarsiaref17_at a1 (IntKind.i64.wrap ((IntKind.i64.wrap (x10 + (1 : Int))) + (1 : Int))))).bind fun x14 =>
    bif (bif (x13 == (124 : Int)) then (x14 == (39 : Int)) else false) then
     (intarsiaref17_to a1 (IntKind.i64.wrap ((IntKind.i64.wrap (x10 + (1 : Int))) + (2 : Int))) ([39] : Bytes)).bind fun x15 =>
     bif (x15 == (a1.length : Int)) then
      some (([] : Bytes), (0 : Int))
     else
      (slc a1 (IntKind.i64.wrap ((IntKind.i64.wrap (x10 + (1 : Int))) + (2 : Int))) x15).bind fun x16 =>
      (intarsiaref17_at a1 (IntKind.i64.wrap (x15 + (1 : Int)))).bind fun x17 =>
      bif (x17 != (41 : Int)) then
       some (([] : Bytes), (0 : Int))
      else
       (intarsiaref17_Value a0 x8 x12).bind fun x18 =>
       bif x18.2 then
        some (x18.1, (IntKind.i64.wrap ((IntKind.i64.wrap (x15 + (1 : Int))) + (1 : Int))))
       else
        some (x16, (IntKind.i64.wrap ((IntKind.i64.wrap (x15 + (1 : Int))) + (1 : Int))))
    else
     (intarsiaref17_at a1 (IntKind.i64.wrap (x10 + (1 : Int)))).bind fun x19 =>
     bif (x19 == (124 : Int)) then
      (intarsiaref17_to a1 (IntKind.i64.wrap ((IntKind.i64.wrap (x10 + (1 : Int))) + (1 : Int))) ([39, 41, 124, 10, 13] : Bytes)).bind fun x20 =>
      (slc a1 (IntKind.i64.wrap ((IntKind.i64.wrap (x10 + (1 : Int))) + (1 : Int))) x20).bind fun x21 =>
      (intarsiaref17_at a1 x20).bind fun x22 =>
      bif (x22 != (41 : Int)) then
       some (([] : Bytes), (0 : Int))
      else
       (intarsiaref17_Value a0 x8 x12).bind fun x23 =>
       bif x23.2 then
        some (x23.1, (IntKind.i64.wrap (x20 + (1 : Int))))
       else
        some (x21, (IntKind.i64.wrap (x20 + (1 : Int))))
     else
      (intarsiaref17_at a1 (IntKind.i64.wrap (x10 + (1 : Int)))).bind fun x24 =>
      bif (x24 != (41 : Int)) then
       some (([] : Bytes), (0 : Int))
      else
       (intarsiaref17_Value a0 x8 x12).bind fun x25 =>
       bif x25.2 then
        some (x25.1, (IntKind.i64.wrap ((IntKind.i64.wrap (x10 + (1 : Int))) + (1 : Int))))
       else
        some (([] : Bytes), (IntKind.i64.wrap ((IntKind.i64.wrap (x10 + (1 : Int))) + (1 : Int))))
  else
   (intarsiaref17_at a1 j1).bind fun x26 =>
   (gcall (x26 == (124 : Int)) (intarsiaref17_at a1 (IntKind.i64.wrap (j1 + (1 : Int))))).bind fun x27 =>
   bif (bif (x26 == (124 : Int)) then (x27 == (39 : Int)) else false) then
    (intarsiaref17_to a1 (IntKind.i64.wrap (j1 + (2 : Int))) ([39] : Bytes)).bind fun x28 =>
    bif (x28 == (a1.length : Int)) then
     some (([] : Bytes), (0 : Int))
    else
     (slc a1 (IntKind.i64.wrap (j1 + (2 : Int))) x28).bind fun x29 =>
     (intarsiaref17_at a1 (IntKind.i64.wrap (x28 + (1 : Int)))).bind fun x30 =>
     bif (x30 != (41 : Int)) then
      some (([] : Bytes), (0 : Int))
     else
      (intarsiaref17_Value a0 x8 ([] : Bytes)).bind fun x31 =>
      bif x31.2 then
       some (x31.1, (IntKind.i64.wrap ((IntKind.i64.wrap (x28 + (1 : Int))) + (1 : Int))))
      else
       some (x29, (IntKind.i64.wrap ((IntKind.i64.wrap (x28 + (1 : Int))) + (1 : Int))))
   else
    (intarsiaref17_at a1 j1).bind fun x32 =>
    bif (x32 == (124 : Int)) then
     (intarsiaref17_to a1 (IntKind.i64.wrap (j1 + (1 : Int))) ([39, 41, 124, 10, 13] : Bytes)).bind fun x33 =>
     (slc a1 (IntKind.i64.wrap (j1 + (1 : Int))) x33).bind fun x34 =>
     (intarsiaref17_at a1 x33).bind fun x35 =>
     bif (x35 != (41 : Int)) then
      some (([] : Bytes), (0 : Int))
     else
      (intarsiaref17_Value a0 x8 ([] : Bytes)).bind fun x36 =>
      bif x36.2 then
       some (x36.1, (IntKind.i64.wrap (x33 + (1 : Int))))
      else
       some (x34, (IntKind.i64.wrap (x33 + (1 : Int))))
    else
     (intarsiaref17_at a1 j1).bind fun x37 =>
     bif (x37 != (41 : Int)) then
      some (([] : Bytes), (0 : Int))
     else
      (intarsiaref17_Value a0 x8 ([] : Bytes)).bind fun x38 =>
      bif x38.2 then
       some (x38.1, (IntKind.i64.wrap (j1 + (1 : Int))))
      else
       some (([] : Bytes), (IntKind.i64.wrap (j1 + (1 : Int))))
noncomputable def intarsiaref18_digit (a0 : Int) : Option Bool :=
 some (bif (decide (a0 ≥ (48 : Int))) then (decide (a0 ≤ (57 : Int))) else false)
noncomputable def intarsiaref18_word_b1 (a0 : Bytes) (s2 : Int) : Option (Int ⊕ Int) :=
 bif (decide (s2 < (a0.length : Int))) then
  (idx a0 s2).bind fun x3 =>
  bif ((x3.toNat : Int) == (39 : Int)) then
   some (.inr (IntKind.i64.wrap (s2 + (1 : Int))))
  else
   some (.inl (IntKind.i64.wrap (s2 + (1 : Int))))
 else
  some (.inr (0 : Int))
noncomputable def intarsiaref18_word_b2 (a0 : Bytes) (s7 : Int) : Option (Int ⊕ Int) :=
 (gidx (decide (s7 < (a0.length : Int))) a0 s7).bind fun x8 =>
 (gcall (decide (s7 < (a0.length : Int))) (intarsiaref18_digit (x8.toNat : Int))).bind fun x9 =>
 bif (bif (decide (s7 < (a0.length : Int))) then x9 else false) then
  some (.inl (IntKind.i64.wrap (s7 + (1 : Int))))
 else
  some (.inr s7)
noncomputable def intarsiaref18_word (a0 : Bytes) : Option Int :=
 (idx a0 (0 : Int)).bind fun x1 =>
 bif ((x1.toNat : Int) == (39 : Int)) then
  loopO (intarsiaref18_word_b1 a0) (1 : Int)
 else
  (intarsiaref17_Ref (S_Env.mk ([] : Bytes) ([] : Bytes) ([] : Bytes) ([] : Bytes) ([] : Bytes) ([] : Bytes)) a0).bind fun x4 =>
  bif (decide (x4.2 > (0 : Int))) then
   some x4.2
  else
   (intarsiaref18_digit (x1.toNat : Int)).bind fun x5 =>
   bif (bif x5 then true else ((x1.toNat : Int) == (45 : Int))) then
    (loopO (intarsiaref18_word_b2 a0) (1 : Int) : Option Int).bind fun j6 =>
    some j6
   else
    (gidx (decide ((a0.length : Int) > (1 : Int))) a0 (1 : Int)).bind fun x10 =>
    bif (bif (bif (decide ((a0.length : Int) > (1 : Int))) then ((x10.toNat : Int) == (61 : Int)) else false) then (bif (bif (bif ((x1.toNat : Int) == (61 : Int)) then true else ((x1.toNat : Int) == (33 : Int))) then true else ((x1.toNat : Int) == (60 : Int))) then true else ((x1.toNat : Int) == (62 : Int))) else false) then
     some (2 : Int)
    else
     bif (bif (bif (bif (bif (bif (bif ((x1.toNat : Int) == (60 : Int)) then true else ((x1.toNat : Int) == (62 : Int))) then true else ((x1.toNat : Int) == (33 : Int))) then true else ((x1.toNat : Int) == (38 : Int))) then true else ((x1.toNat : Int) == (124 : Int))) then true else ((x1.toNat : Int) == (40 : Int))) then true else ((x1.toNat : Int) == (41 : Int))) then
      some (1 : Int)
     else
      some (0 : Int)
noncomputable def intarsiaref18_Words_b1 (x : (Bytes × (List Bytes))) : Option ((Bytes × (List Bytes)) ⊕ ((List Bytes) × Bool)) :=
 match x with
 | (s1, s2) =>
  bif (!(s1 == ([] : Bytes))) then
   (idx s1 (0 : Int)).bind fun x3 =>
   (intarsiaref18_blank (x3.toNat : Int)).bind fun x4 =>
   bif x4 then
    (slc s1 (1 : Int) (s1.length : Int)).bind fun x5 =>
    some (.inl (x5, s2))
   else
    (intarsiaref18_word s1).bind fun x6 =>
    bif (x6 == (0 : Int)) then
     some (.inr (s2, false))
    else
     (slc s1 0 x6).bind fun x7 =>
     (app 16 s2 ([x7] : List Bytes)).bind fun x8 =>
     (slc s1 x6 (s1.length : Int)).bind fun x9 =>
     some (.inl (x9, x8))
  else
   some (.inr (s2, true))
noncomputable def intarsiaref18_Words (a0 : Bytes) : Option ((List Bytes) × Bool) :=
 loopO intarsiaref18_Words_b1 (a0, ([] : List Bytes))
noncomputable def strings_trimLeftByte_b1 (a1 : Int) (s2 : Bytes) : Option (Bytes ⊕ Bytes) :=
 (gidx (decide ((s2.length : Int) > (0 : Int))) s2 (0 : Int)).bind fun x3 =>
 bif (bif (decide ((s2.length : Int) > (0 : Int))) then ((x3.toNat : Int) == a1) else false) then
  (slc s2 (1 : Int) (s2.length : Int)).bind fun x4 =>
  some (.inl x4)
 else
  some (.inr s2)
noncomputable def strings_trimLeftByte (a0 : Bytes) (a1 : Int) : Option Bytes :=
 (loopO (strings_trimLeftByte_b1 a1) a0 : Option Bytes).bind fun j1 =>
 some j1
noncomputable def strings_makeASCIISet_b1 (a0 : Bytes) (x : (Int × (List Bool))) : Option ((Int × (List Bool)) ⊕ ((List Bool) × Bool)) :=
 match x with
 | (s1, s2) =>
  bif (decide (s1 < (a0.length : Int))) then
   (idx a0 s1).bind fun x3 =>
   bif (decide ((x3.toNat : Int) ≥ (128 : Int))) then
    chk (s2.length = 256) <|
    chk (s2.length = 256 ∧ s2.length = 256) <|
    chk (s2.length = 256) (some (.inr (s2, false)))
   else
    chk (0 ≤ (x3.toNat : Int) ∧ (x3.toNat : Int) < 256) <|
    (seti s2 (x3.toNat : Int) true).bind fun x7 =>
    some (.inl ((IntKind.i64.wrap (s1 + (1 : Int))), x7))
  else
   chk (s2.length = 256) <|
   chk (s2.length = 256 ∧ s2.length = 256) <|
   chk (s2.length = 256) (some (.inr (s2, true)))
noncomputable def strings_makeASCIISet (a0 : Bytes) : Option ((List Bool) × Bool) :=
 loopO (strings_makeASCIISet_b1 a0) ((0 : Int), (List.replicate 256 false))
noncomputable def strings_asciiSet_contains (a0 : (List Bool)) (a1 : Int) : Option Bool :=
 chk (0 ≤ a1 ∧ a1 < 256) <|
 (idx a0 a1).bind fun x2 =>
 some x2
noncomputable def strings_trimLeftASCII_b1 (a1 : (List Bool)) (s2 : Bytes) : Option (Bytes ⊕ Bytes) :=
 bif (decide ((s2.length : Int) > (0 : Int))) then
  (idx s2 (0 : Int)).bind fun x3 =>
  (strings_asciiSet_contains a1 (x3.toNat : Int)).bind fun x4 =>
  bif (!x4) then
   some (.inr s2)
  else
   (slc s2 (1 : Int) (s2.length : Int)).bind fun x5 =>
   some (.inl x5)
 else
  some (.inr s2)
noncomputable def strings_trimLeftASCII (a0 : Bytes) (a1 : (List Bool)) : Option Bytes :=
 (loopO (strings_trimLeftASCII_b1 a1) a0 : Option Bytes).bind fun j1 =>
 some j1
noncomputable def unicode_utf8_decodeRuneInStringSlow (a0 : Bytes) : Option (Int × Int) :=
 bif (decide ((a0.length : Int) < (1 : Int))) then
  some ((65533 : Int), (0 : Int))
 else
  (idx a0 (0 : Int)).bind fun x1 =>
  none
noncomputable def unicode_utf8_DecodeRuneInString (a0 : Bytes) : Option (Int × Int) :=
 (gidx (!(a0 == ([] : Bytes))) a0 (0 : Int)).bind fun x1 =>
 bif (bif (!(a0 == ([] : Bytes))) then (decide ((x1.toNat : Int) < (128 : Int))) else false) then
  (idx a0 (0 : Int)).bind fun x2 =>
  some ((IntKind.i32.wrap (x2.toNat : Int)), (1 : Int))
 else
  (unicode_utf8_decodeRuneInStringSlow a0).bind fun x3 =>
  some (x3.1, x3.2)
noncomputable def stringslite_IndexByte (a0 : Bytes) (a1 : Int) : Option Int :=
 (bytealg_IndexByteString a0 a1).bind fun x1 =>
 some x1
noncomputable def strings_IndexByte (a0 : Bytes) (a1 : Int) : Option Int :=
 (stringslite_IndexByte a0 a1).bind fun x1 =>
 some x1
noncomputable def unicode_utf8_ValidRune (a0 : Int) : Option Bool :=
 bif (bif (decide ((0 : Int) ≤ a0)) then (decide (a0 < (55296 : Int))) else false) then
  some true
 else
  bif (bif (decide ((57343 : Int) < a0)) then (decide (a0 ≤ (1114111 : Int))) else false) then
   some true
  else
   some false
noncomputable def strings_IndexRune_b1 (a0 : Bytes) (s2 : Nat) : Option (Nat ⊕ Int) :=
 bif (decide (s2 < a0.length)) then
  bif (((runeAt a0 s2 : Nat) : Int) == (65533 : Int)) then
   some (.inr ((s2 : Nat) : Int))
  else
   some (.inl (s2 + widthAt a0 s2))
 else
  some (.inr (-1 : Int))
noncomputable def strings_IndexRune_b3 (a0 : Bytes) (a1 : Int) (s4 : Int) (x9 : Int) (s10 : Int) : Option (Int ⊕ (Int ⊕ Int)) :=
 bif (decide (s10 < ((encB a1).length : Int))) then
  (idx a0 (IntKind.i64.wrap ((IntKind.i64.wrap (s4 + (IntKind.i64.wrap (x9 + (1 : Int))))) - s10))).bind fun x11 =>
  (idx (encB a1) (IntKind.i64.wrap ((IntKind.i64.wrap (((encB a1).length : Int) - (1 : Int))) - s10))).bind fun x12 =>
  bif ((x11.toNat : Int) != (x12.toNat : Int)) then
   none
  else
   some (.inl (IntKind.i64.wrap (s10 + (1 : Int))))
 else
  some (.inr (.inr (IntKind.i64.wrap ((IntKind.i64.wrap (s4 + (IntKind.i64.wrap (x9 + (1 : Int))))) - (IntKind.i64.wrap (((encB a1).length : Int) - (1 : Int)))))))
noncomputable def strings_IndexRune_b4 (a0 : Bytes) (a1 : Int) (s4 : Int) (s13 : Int) : Option (Int ⊕ (Int ⊕ Int)) :=
 bif (decide (s13 < ((encB a1).length : Int))) then
  (idx a0 (IntKind.i64.wrap (s4 - s13))).bind fun x14 =>
  (idx (encB a1) (IntKind.i64.wrap ((IntKind.i64.wrap (((encB a1).length : Int) - (1 : Int))) - s13))).bind fun x15 =>
  bif ((x14.toNat : Int) != (x15.toNat : Int)) then
   none
  else
   some (.inl (IntKind.i64.wrap (s13 + (1 : Int))))
 else
  some (.inr (.inr (IntKind.i64.wrap (s4 - (IntKind.i64.wrap (((encB a1).length : Int) - (1 : Int)))))))
noncomputable def strings_IndexRune_b2 (a0 : Bytes) (a1 : Int) (s4 : Int) : Option (Int ⊕ Int) :=
 bif (decide (s4 < (a0.length : Int))) then
  (idx a0 s4).bind fun x5 =>
  (idx (encB a1) (IntKind.i64.wrap (((encB a1).length : Int) - (1 : Int)))).bind fun x6 =>
  bif ((x5.toNat : Int) != (x6.toNat : Int)) then
   (slc a0 (IntKind.i64.wrap (s4 + (1 : Int))) (a0.length : Int)).bind fun x7 =>
   (idx (encB a1) (IntKind.i64.wrap (((encB a1).length : Int) - (1 : Int)))).bind fun x8 =>
   (strings_IndexByte x7 (x8.toNat : Int)).bind fun x9 =>
   bif (decide (x9 < (0 : Int))) then
    some (.inr (-1 : Int))
   else
    loopO (strings_IndexRune_b3 a0 a1 s4 x9) (1 : Int)
  else
   loopO (strings_IndexRune_b4 a0 a1 s4) (1 : Int)
 else
  some (.inr (-1 : Int))
noncomputable def strings_IndexRune (a0 : Bytes) (a1 : Int) : Option Int :=
 bif (bif (decide ((0 : Int) ≤ a1)) then (decide (a1 < (128 : Int))) else false) then
  (strings_IndexByte a0 (IntKind.u8.wrap a1)).bind fun x1 =>
  some x1
 else
  bif (a1 == (65533 : Int)) then
   loopO (strings_IndexRune_b1 a0) 0
  else
   (unicode_utf8_ValidRune a1).bind fun x3 =>
   bif (!x3) then
    some (-1 : Int)
   else
    loopO (strings_IndexRune_b2 a0 a1) (IntKind.i64.wrap (((encB a1).length : Int) - (1 : Int)))
noncomputable def strings_ContainsRune (a0 : Bytes) (a1 : Int) : Option Bool :=
 (strings_IndexRune a0 a1).bind fun x1 =>
 some (decide (x1 ≥ (0 : Int)))
noncomputable def strings_trimLeftUnicode_b1 (a1 : Bytes) (s2 : Bytes) : Option (Bytes ⊕ Bytes) :=
 bif (decide ((s2.length : Int) > (0 : Int))) then
  (unicode_utf8_DecodeRuneInString s2).bind fun x3 =>
  (strings_ContainsRune a1 x3.1).bind fun x4 =>
  bif (!x4) then
   some (.inr s2)
  else
   (slc s2 x3.2 (s2.length : Int)).bind fun x5 =>
   some (.inl x5)
 else
  some (.inr s2)
noncomputable def strings_trimLeftUnicode (a0 : Bytes) (a1 : Bytes) : Option Bytes :=
 (loopO (strings_trimLeftUnicode_b1 a1) a0 : Option Bytes).bind fun j1 =>
 some j1
noncomputable def strings_TrimLeft (a0 : Bytes) (a1 : Bytes) : Option Bytes :=
 bif (bif (a0 == ([] : Bytes)) then true else (a1 == ([] : Bytes))) then
  some a0
 else
  (gidx ((a1.length : Int) == (1 : Int)) a1 (0 : Int)).bind fun x1 =>
  bif (bif ((a1.length : Int) == (1 : Int)) then (decide ((x1.toNat : Int) < (128 : Int))) else false) then
   (idx a1 (0 : Int)).bind fun x2 =>
   (strings_trimLeftByte a0 (x2.toNat : Int)).bind fun x3 =>
   some x3
  else
   (strings_makeASCIISet a1).bind fun x4 =>
   chk (x4.1.length = 256) <|
   chk (0 < x4.1.length) <|
   bif x4.2 then
    (strings_trimLeftASCII a0 x4.1).bind fun x6 =>
    some x6
   else
    (strings_trimLeftUnicode a0 a1).bind fun x7 =>
    some x7
noncomputable def expr_parser_blanks (o0 : S_expr_parser) : Option (Unit × S_expr_parser) :=
 (strings_TrimLeft o0.s ([32, 9, 10, 13] : Bytes)).bind fun x1 =>
 some ((), (S_expr_parser.mk x1 o0.bad))
noncomputable def stringslite_HasPrefix (a0 : Bytes) (a1 : Bytes) : Option Bool :=
 (gslc (decide ((a0.length : Int) ≥ (a1.length : Int))) a0 0 (a1.length : Int)).bind fun x1 =>
 some (bif (decide ((a0.length : Int) ≥ (a1.length : Int))) then (x1 == a1) else false)
noncomputable def stringslite_CutPrefix (a0 : Bytes) (a1 : Bytes) : Option (Bytes × Bool) :=
 (stringslite_HasPrefix a0 a1).bind fun x1 =>
 bif (!x1) then
  some (a0, false)
 else
  (slc a0 (a1.length : Int) (a0.length : Int)).bind fun x2 =>
  some (x2, true)
noncomputable def strings_CutPrefix (a0 : Bytes) (a1 : Bytes) : Option (Bytes × Bool) :=
 (stringslite_CutPrefix a0 a1).bind fun x1 =>
 some (x1.1, x1.2)
noncomputable def expr_parser_eat (o0 : S_expr_parser) (a1 : Bytes) : Option (Bool × S_expr_parser) :=
 (expr_parser_blanks o0).bind fun x1 =>
 (strings_CutPrefix x1.2.s a1).bind fun x2 =>
 some (x2.2, (S_expr_parser.mk x2.1 x1.2.bad))
noncomputable def expr_parser_fail (o0 : S_expr_parser) : Option (S_Expr × S_expr_parser) :=
 some ((S_Expr.mk (0 : Int) (0 : Int) ([] : Bytes) ([] : Bytes) ([] : List S_Expr)), (S_expr_parser.mk ([] : Bytes) true))
noncomputable def stringslite_Cut (a0 : Bytes) (a1 : Bytes) : Option (Bytes × Bytes × Bool) :=
 (stringslite_Index a0 a1).bind fun x1 =>
 bif (decide (x1 ≥ (0 : Int))) then
  (slc a0 0 x1).bind fun x2 =>
  (slc a0 (IntKind.i64.wrap (x1 + (a1.length : Int))) (a0.length : Int)).bind fun x3 =>
  some (x2, x3, true)
 else
  some (a0, ([] : Bytes), false)
noncomputable def strings_Cut (a0 : Bytes) (a1 : Bytes) : Option (Bytes × Bytes × Bool) :=
 (stringslite_Cut a0 a1).bind fun x1 =>
 some (x1.1, x1.2.1, x1.2.2)
noncomputable def vars_run_b1 (a0 : Bytes) (a1i : Int → Option Bool) (s2 : Int) : Option (Int ⊕ Int) :=
 (gidx (decide (s2 < (a0.length : Int))) a0 s2).bind fun x3 =>
 (gcall (decide (s2 < (a0.length : Int))) (a1i (x3.toNat : Int))).bind fun x4 =>
 bif (bif (decide (s2 < (a0.length : Int))) then x4 else false) then
  some (.inl (IntKind.i64.wrap (s2 + (1 : Int))))
 else
  some (.inr s2)
noncomputable def vars_run (a0 : Bytes) (a1i : Int → Option Bool) : Option Int :=
 (loopO (vars_run_b1 a0 a1i) (0 : Int) : Option Int).bind fun j1 =>
 some j1
noncomputable def vars_letter (a0 : Int) : Option Bool :=
 some (bif (bif (decide (a0 ≥ (65 : Int))) then (decide (a0 ≤ (90 : Int))) else false) then true else (a0 == (95 : Int)))
noncomputable def vars_Ref_1 : Option (Bytes × Int) :=
 some (([] : Bytes), (0 : Int))
noncomputable def strings_HasPrefix (a0 : Bytes) (a1 : Bytes) : Option Bool :=
 (stringslite_HasPrefix a0 a1).bind fun x1 =>
 some x1
noncomputable def vars_but (a0 : Bytes) : Option Bytes :=
 some a0
noncomputable def vars_but_1 (a0 : Int) (c0 : Bytes) : Option Bool :=
 (strings_IndexByte c0 a0).bind fun x1 =>
 some (decide (x1 < (0 : Int)))
noncomputable def vars_bare (a0 : Bytes) : Option Bytes :=
 some a0
noncomputable def vars_of_vars_known_1 (a0 : Bytes) (a1k0 : S_Env) : Option (Bytes × S_Env) :=
 some (a0, a1k0)
noncomputable def vars_of_vars_known_2 (a0 : Bytes) (a1k0 : S_Env) : Option (Bytes × S_Env) :=
 some (a0, a1k0)
noncomputable def vars_of_vars_known_3 (a0 : Bytes) (a1k0 : S_Env) : Option (Bytes × S_Env) :=
 some (a0, a1k0)
noncomputable def vars_of_vars_known_4 (a0 : Bytes) (a1k0 : S_Env) : Option (Bytes × S_Env) :=
 some (a0, a1k0)
noncomputable def vars_known (a0 : S_Env) : Option (Bytes × Bytes × (Bytes × S_Env) × (Bytes × S_Env) × (Bytes × S_Env) × (Bytes × S_Env)) :=
 (vars_bare a0.Host).bind fun x1 =>
 (vars_bare a0.Referer).bind fun x2 =>
 (vars_of_vars_known_1 a0.Agent a0).bind fun x3 =>
 (vars_of_vars_known_2 a0.Cookie a0).bind fun x4 =>
 (vars_of_vars_known_3 a0.Query a0).bind fun x5 =>
 (vars_of_vars_known_4 a0.Language a0).bind fun x6 =>
 some (x1, x2, (x3.1, x3.2), (x4.1, x4.2), (x5.1, x5.2), (x6.1, x6.2))
noncomputable def vars_some (a0 : Bytes) : Option (Bytes × Bool) :=
 some (a0, (!(a0 == ([] : Bytes))))
noncomputable def vars_bare_1 (a0 : Bytes) (c0 : Bytes) : Option (Bytes × Bool) :=
 bif (!(a0 == ([] : Bytes))) then
  some (([] : Bytes), false)
 else
  (vars_some c0).bind fun x1 =>
  some (x1.1, x1.2)
noncomputable def vars_of_1 (a0 : Bytes) (c0 : Bytes) (c1i : Bytes → Option (Bytes × Bool)) : Option (Bytes × Bool) :=
 bif (a0 == ([] : Bytes)) then
  (vars_some c0).bind fun x1 =>
  some (x1.1, x1.2)
 else
  (c1i a0).bind fun x2 =>
  some (x2.1, x2.2)
noncomputable def strings_Contains (a0 : Bytes) (a1 : Bytes) : Option Bool :=
 (strings_Index a0 a1).bind fun x1 =>
 some (decide (x1 ≥ (0 : Int)))
noncomputable def pairs_Agent_b1 (a0 : Bytes) (x : (Bytes × Bytes × Int)) : Option ((Bytes × Bytes × Int) ⊕ (Bytes × Bytes)) :=
 match x with
 | (s2, s3, s4) =>
  bif (decide (s4 < (([(S_Anon164.mk ([77, 83, 73, 69] : Bytes) ([77, 83, 73, 69] : Bytes) ([77, 83, 73, 69, 32] : Bytes)), (S_Anon164.mk ([77, 111, 122, 105, 108, 108, 97] : Bytes) ([77, 79, 90, 73, 76, 76, 65] : Bytes) ([77, 111, 122, 105, 108, 108, 97, 47] : Bytes))] : List S_Anon164).length : Int))) then
   (idx ([(S_Anon164.mk ([77, 83, 73, 69] : Bytes) ([77, 83, 73, 69] : Bytes) ([77, 83, 73, 69, 32] : Bytes)), (S_Anon164.mk ([77, 111, 122, 105, 108, 108, 97] : Bytes) ([77, 79, 90, 73, 76, 76, 65] : Bytes) ([77, 111, 122, 105, 108, 108, 97, 47] : Bytes))] : List S_Anon164) s4).bind fun x5 =>
   (strings_Contains a0 x5.e0).bind fun x6 =>
   bif (!x6) then
    some (.inl (s2, s3, (IntKind.i64.wrap (s4 + (1 : Int)))))
   else
    (strings_Cut a0 x5.e2).bind fun x7 =>
    (strings_TrimLeft x7.2.1 ([48, 49, 50, 51, 52, 53, 54, 55, 56, 57, 46] : Bytes)).bind fun x8 =>
    (slc x7.2.1 0 (IntKind.i64.wrap ((x7.2.1.length : Int) - (x8.length : Int)))).bind fun x9 =>
    some (.inr (x5.e1, x9))
  else
   some (.inr (s2, s3))
noncomputable def pairs_Agent_b2 (a0 : Bytes) (x : (Bytes × Int)) : Option ((Bytes × Int) ⊕ Bytes) :=
 match x with
 | (s11, s12) =>
  bif (decide (s12 < (([(S_Anon166.mk ([87, 105, 110, 100, 111, 119, 115] : Bytes) ([87, 73, 78] : Bytes)), (S_Anon166.mk ([77, 97, 99] : Bytes) ([77, 65, 67] : Bytes)), (S_Anon166.mk ([88, 49, 49] : Bytes) ([85, 78, 73, 88] : Bytes))] : List S_Anon166).length : Int))) then
   (idx ([(S_Anon166.mk ([87, 105, 110, 100, 111, 119, 115] : Bytes) ([87, 73, 78] : Bytes)), (S_Anon166.mk ([77, 97, 99] : Bytes) ([77, 65, 67] : Bytes)), (S_Anon166.mk ([88, 49, 49] : Bytes) ([85, 78, 73, 88] : Bytes))] : List S_Anon166) s12).bind fun x13 =>
   (strings_Contains a0 x13.e0).bind fun x14 =>
   bif x14 then
    some (.inr x13.e1)
   else
    some (.inl (s11, (IntKind.i64.wrap (s12 + (1 : Int)))))
  else
   some (.inr s11)
noncomputable def pairs_Agent (a0 : Bytes) : Option (Bytes × Bytes × Bytes) :=
 (loopO (pairs_Agent_b1 a0) (([79, 84, 72, 69, 82] : Bytes), ([] : Bytes), (0 : Int)) : Option (Bytes × Bytes)).bind fun j1 =>
 (loopO (pairs_Agent_b2 a0) (([79, 84, 72, 69, 82] : Bytes), (0 : Int)) : Option Bytes).bind fun j10 =>
 some (j1.1, j1.2, j10)
noncomputable def vars_known_1 (a0 : Bytes) (c0 : S_Env) : Option (Bytes × Bool) :=
 (pairs_Agent c0.Agent).bind fun x1 =>
 (vars_some (mget ([] : Bytes) (mins (mins (mins ([] : List (Bytes × Bytes)) ([98, 114, 111, 119, 115, 101, 114] : Bytes) x1.1) ([118, 101, 114, 115, 105, 111, 110] : Bytes) x1.2.1) ([111, 115] : Bytes) x1.2.2) a0)).bind fun x2 =>
 some (x2.1, x2.2)
noncomputable def strings_trimRightByte_b1 (a1 : Int) (s2 : Bytes) : Option (Bytes ⊕ Bytes) :=
 (gidx (decide ((s2.length : Int) > (0 : Int))) s2 (IntKind.i64.wrap ((s2.length : Int) - (1 : Int)))).bind fun x3 =>
 bif (bif (decide ((s2.length : Int) > (0 : Int))) then ((x3.toNat : Int) == a1) else false) then
  (slc s2 0 (IntKind.i64.wrap ((s2.length : Int) - (1 : Int)))).bind fun x4 =>
  some (.inl x4)
 else
  some (.inr s2)
noncomputable def strings_trimRightByte (a0 : Bytes) (a1 : Int) : Option Bytes :=
 (loopO (strings_trimRightByte_b1 a1) a0 : Option Bytes).bind fun j1 =>
 some j1
noncomputable def strings_trimRightASCII_b1 (a1 : (List Bool)) (s2 : Bytes) : Option (Bytes ⊕ Bytes) :=
 bif (decide ((s2.length : Int) > (0 : Int))) then
  (idx s2 (IntKind.i64.wrap ((s2.length : Int) - (1 : Int)))).bind fun x3 =>
  (strings_asciiSet_contains a1 (x3.toNat : Int)).bind fun x4 =>
  bif (!x4) then
   some (.inr s2)
  else
   (slc s2 0 (IntKind.i64.wrap ((s2.length : Int) - (1 : Int)))).bind fun x5 =>
   some (.inl x5)
 else
  some (.inr s2)
noncomputable def strings_trimRightASCII (a0 : Bytes) (a1 : (List Bool)) : Option Bytes :=
 (loopO (strings_trimRightASCII_b1 a1) a0 : Option Bytes).bind fun j1 =>
 some j1
noncomputable def unicode_utf8_RuneStart (a0 : Int) : Option Bool :=
 some ((bits .and .u8 a0 (192 : Int)) != (128 : Int))
noncomputable def unicode_utf8_DecodeLastRuneInString_b1 (a0 : Bytes) (s3 : Int) : Option (Int ⊕ Int) :=
 bif (decide (s3 ≥ (imax (IntKind.i64.wrap ((a0.length : Int) - (4 : Int))) (0 : Int)))) then
  (idx a0 s3).bind fun x4 =>
  (unicode_utf8_RuneStart (x4.toNat : Int)).bind fun x5 =>
  bif x5 then
   some (.inr s3)
  else
   some (.inl (IntKind.i64.wrap (s3 - (1 : Int))))
 else
  some (.inr s3)
noncomputable def unicode_utf8_DecodeLastRuneInString (a0 : Bytes) : Option (Int × Int) :=
 bif ((a0.length : Int) == (0 : Int)) then
  some ((65533 : Int), (0 : Int))
 else
  (idx a0 (IntKind.i64.wrap ((a0.length : Int) - (1 : Int)))).bind fun x1 =>
  bif (decide ((IntKind.i32.wrap (x1.toNat : Int)) < (128 : Int))) then
   some ((IntKind.i32.wrap (x1.toNat : Int)), (1 : Int))
  else
   (loopO (unicode_utf8_DecodeLastRuneInString_b1 a0) (IntKind.i64.wrap ((IntKind.i64.wrap ((a0.length : Int) - (1 : Int))) - (1 : Int))) : Option Int).bind fun j2 =>
   bif (decide (j2 < (0 : Int))) then
    (slc a0 (0 : Int) (a0.length : Int)).bind fun x6 =>
    (unicode_utf8_DecodeRuneInString x6).bind fun x7 =>
    bif ((IntKind.i64.wrap ((0 : Int) + x7.2)) != (a0.length : Int)) then
     some ((65533 : Int), (1 : Int))
    else
     some (x7.1, x7.2)
   else
    (slc a0 j2 (a0.length : Int)).bind fun x8 =>
    (unicode_utf8_DecodeRuneInString x8).bind fun x9 =>
    bif ((IntKind.i64.wrap (j2 + x9.2)) != (a0.length : Int)) then
     some ((65533 : Int), (1 : Int))
    else
     some (x9.1, x9.2)
noncomputable def strings_trimRightUnicode_b1 (a1 : Bytes) (s2 : Bytes) : Option (Bytes ⊕ Bytes) :=
 bif (decide ((s2.length : Int) > (0 : Int))) then
  (idx s2 (IntKind.i64.wrap ((s2.length : Int) - (1 : Int)))).bind fun x3 =>
  bif (decide ((IntKind.i32.wrap (x3.toNat : Int)) ≥ (128 : Int))) then
   (unicode_utf8_DecodeLastRuneInString s2).bind fun x4 =>
   (strings_ContainsRune a1 x4.1).bind fun x5 =>
   bif (!x5) then
    some (.inr s2)
   else
    (slc s2 0 (IntKind.i64.wrap ((s2.length : Int) - x4.2))).bind fun x6 =>
    some (.inl x6)
  else
   (strings_ContainsRune a1 (IntKind.i32.wrap (x3.toNat : Int))).bind fun x7 =>
   bif (!x7) then
    some (.inr s2)
   else
    (slc s2 0 (IntKind.i64.wrap ((s2.length : Int) - (1 : Int)))).bind fun x8 =>
    some (.inl x8)
 else
  some (.inr s2)
noncomputable def strings_trimRightUnicode (a0 : Bytes) (a1 : Bytes) : Option Bytes :=
 (loopO (strings_trimRightUnicode_b1 a1) a0 : Option Bytes).bind fun j1 =>
 some j1
noncomputable def strings_Trim (a0 : Bytes) (a1 : Bytes) : Option Bytes :=
 bif (bif (a0 == ([] : Bytes)) then true else (a1 == ([] : Bytes))) then
  some a0
 else
  (gidx ((a1.length : Int) == (1 : Int)) a1 (0 : Int)).bind fun x1 =>
  bif (bif ((a1.length : Int) == (1 : Int)) then (decide ((x1.toNat : Int) < (128 : Int))) else false) then
   (idx a1 (0 : Int)).bind fun x2 =>
   (strings_trimRightByte a0 (x2.toNat : Int)).bind fun x3 =>
   (idx a1 (0 : Int)).bind fun x4 =>
   (strings_trimLeftByte x3 (x4.toNat : Int)).bind fun x5 =>
   some x5
  else
   (strings_makeASCIISet a1).bind fun x6 =>
   chk (x6.1.length = 256) <|
   chk (0 < x6.1.length) <|
   bif x6.2 then
    (strings_trimRightASCII a0 x6.1).bind fun x8 =>
    (strings_trimLeftASCII x8 x6.1).bind fun x9 =>
    some x9
   else
    (strings_trimRightUnicode a0 a1).bind fun x10 =>
    (strings_trimLeftUnicode x10 a1).bind fun x11 =>
    some x11
noncomputable def text_Trim (a0 : Bytes) : Option Bytes :=
 (strings_Trim a0 ([32, 9] : Bytes)).bind fun x1 =>
 some x1
noncomputable def text_controls_b1 (x : (Int × (List Bool))) : Option ((Int × (List Bool)) ⊕ (List Bool)) :=
 match x with
 | (s2, s3) =>
  bif (decide (s2 < (256 : Int))) then
   chk (0 ≤ s2 ∧ s2 < 256) <|
   (seti s3 s2 (bif (bif (decide (s2 < (32 : Int))) then (s2 != (9 : Int)) else false) then true else (s2 == (127 : Int)))).bind fun x5 =>
   some (.inl ((IntKind.i64.wrap (s2 + (1 : Int))), x5))
  else
   some (.inr s3)
noncomputable def text_controls : Option (List Bool) :=
 (loopO text_controls_b1 ((0 : Int), (List.replicate 256 false)) : Option (List Bool)).bind fun j1 =>
 chk (0 < j1.length) (some j1)
noncomputable def text_some_b1 (a0 : Bytes) (a1 : (List Bool)) (a2i : (List Bool) → Int → Option Bool) (s1 : Int) : Option (Int ⊕ Bool) :=
 bif (decide (s1 < (a0.length : Int))) then
  (idx a0 s1).bind fun x2 =>
  (a2i a1 (x2.toNat : Int)).bind fun x3 =>
  bif x3 then
   some (.inr true)
  else
   some (.inl (IntKind.i64.wrap (s1 + (1 : Int))))
 else
  some (.inr false)
noncomputable def text_some (a0 : Bytes) (a1 : (List Bool)) (a2i : (List Bool) → Int → Option Bool) : Option Bool :=
 loopO (text_some_b1 a0 a1 a2i) (0 : Int)
noncomputable def text_set_has (a0 : (List Bool)) (a1 : Int) : Option Bool :=
 chk (0 ≤ a1 ∧ a1 < 256) <|
 (idx a0 a1).bind fun x2 =>
 some x2
noncomputable def text_Unquote_b1 (a0 : Bytes) (x : ((List UInt8) × Int)) : Option (((List UInt8) × Int) ⊕ (Bytes × Int)) :=
 match x with
 | (s5, s6) =>
  bif (decide (s6 < (IntKind.i64.wrap ((a0.length : Int) - (1 : Int))))) then
   (idx a0 s6).bind fun x7 =>
   bif ((x7.toNat : Int) == (34 : Int)) then
    some (.inr (([] : Bytes), (11 : Int)))
   else
    bif ((x7.toNat : Int) == (92 : Int)) then
     bif ((IntKind.i64.wrap (s6 + (1 : Int))) == (IntKind.i64.wrap ((a0.length : Int) - (1 : Int)))) then
      some (.inr (([] : Bytes), (11 : Int)))
     else
      (idx a0 (IntKind.i64.wrap (s6 + (1 : Int)))).bind fun x8 =>
      (app 1 s5 ([u8 (x8.toNat : Int)] : List UInt8)).bind fun x9 =>
      some (.inl (x9, (IntKind.i64.wrap ((IntKind.i64.wrap (s6 + (1 : Int))) + (1 : Int)))))
    else
     (idx a0 s6).bind fun x10 =>
     (app 1 s5 ([u8 (x10.toNat : Int)] : List UInt8)).bind fun x11 =>
     some (.inl (x11, (IntKind.i64.wrap (s6 + (1 : Int)))))
  else
   some (.inr (s5, (0 : Int)))
noncomputable def text_Unquote (a0 : Bytes) : Option (Bytes × Int) :=
 (gidx (!(decide ((a0.length : Int) < (2 : Int)))) a0 (0 : Int)).bind fun x1 =>
 (gidx (!(bif (decide ((a0.length : Int) < (2 : Int))) then true else ((x1.toNat : Int) != (34 : Int)))) a0 (IntKind.i64.wrap ((a0.length : Int) - (1 : Int)))).bind fun x2 =>
 (gcall (!(bif (bif (decide ((a0.length : Int) < (2 : Int))) then true else ((x1.toNat : Int) != (34 : Int))) then true else ((x2.toNat : Int) != (34 : Int)))) text_controls).bind fun x3 =>
 (gcall (!(bif (bif (decide ((a0.length : Int) < (2 : Int))) then true else ((x1.toNat : Int) != (34 : Int))) then true else ((x2.toNat : Int) != (34 : Int)))) (text_some a0 x3 (fun x0 x1 => text_set_has x0 x1))).bind fun x4 =>
 bif (bif (bif (bif (decide ((a0.length : Int) < (2 : Int))) then true else ((x1.toNat : Int) != (34 : Int))) then true else ((x2.toNat : Int) != (34 : Int))) then true else x4) then
  some (([] : Bytes), (11 : Int))
 else
  loopO (text_Unquote_b1 a0) (([] : List UInt8), (1 : Int))
noncomputable def pairs_Cookies_1 (a0 : Bytes) (oc0 : (List S_Pair)) : Option (Unit × (List S_Pair)) :=
 (text_Trim a0).bind fun x1 =>
 (strings_Cut x1 ([61] : Bytes)).bind fun x2 =>
 (text_Trim x2.1).bind fun x3 =>
 (text_Trim x2.2.1).bind fun x4 =>
 bif (bif (!x2.2.2) then true else (x3 == ([] : Bytes))) then
  some ((), oc0)
 else
  (text_Unquote x4).bind fun x5 =>
  bif (x5.2 == (0 : Int)) then
   (app 32 oc0 ([(S_Pair.mk x3 x5.1)] : List S_Pair)).bind fun x6 =>
   some ((), x6)
  else
   (app 32 oc0 ([(S_Pair.mk x3 x4)] : List S_Pair)).bind fun x7 =>
   some ((), x7)
noncomputable def pairs_parts_pairs_Cookies_1_b1 (x1 : (List Bytes)) (x : (Int × (List S_Pair))) : Option ((Int × (List S_Pair)) ⊕ (Unit × (List S_Pair))) :=
 match x with
 | (s2, s3) =>
  bif (decide (s2 < (x1.length : Int))) then
   (idx x1 s2).bind fun x4 =>
   bif (!(x4 == ([] : Bytes))) then
    (pairs_Cookies_1 x4 s3).bind fun x5 =>
    some (.inl ((IntKind.i64.wrap (s2 + (1 : Int))), x5.2))
   else
    some (.inl ((IntKind.i64.wrap (s2 + (1 : Int))), s3))
  else
   some (.inr ((), s3))
noncomputable def pairs_parts_pairs_Cookies_1 (a0 : Bytes) (a1 : Bytes) (oa20 : (List S_Pair)) : Option (Unit × (List S_Pair)) :=
 (strings_Split a0 a1).bind fun x1 =>
 loopO (pairs_parts_pairs_Cookies_1_b1 x1) ((0 : Int), oa20)
noncomputable def pairs_Cookies (a0 : Bytes) : Option (List S_Pair) :=
 (pairs_parts_pairs_Cookies_1 a0 ([59] : Bytes) ([] : List S_Pair)).bind fun x1 =>
 some x1.2
noncomputable def slices_IndexFunc__api_Pair_api_Pair_b1 (a0 : (List S_Pair)) (a1i : S_Pair → Option Bool) (s1 : Int) : Option (Int ⊕ Int) :=
 bif (decide (s1 < (a0.length : Int))) then
  (idx a0 s1).bind fun x2 =>
  (a1i x2).bind fun x3 =>
  bif x3 then
   some (.inr s1)
  else
   some (.inl (IntKind.i64.wrap (s1 + (1 : Int))))
 else
  some (.inr (-1 : Int))
noncomputable def slices_IndexFunc__api_Pair_api_Pair (a0 : (List S_Pair)) (a1i : S_Pair → Option Bool) : Option Int :=
 loopO (slices_IndexFunc__api_Pair_api_Pair_b1 a0 a1i) (0 : Int)
noncomputable def pairs_Find_1 (a0 : S_Pair) (c0 : Bytes) : Option Bool :=
 some (a0.Name == c0)
noncomputable def pairs_Find (a0 : (List S_Pair)) (a1 : Bytes) : Option (Bytes × Bool) :=
 (slices_IndexFunc__api_Pair_api_Pair a0 (fun x0 => pairs_Find_1 x0 a1)).bind fun x1 =>
 bif (decide (x1 ≥ (0 : Int))) then
  (idx a0 x1).bind fun x2 =>
  some (x2.Value, true)
 else
  some (([] : Bytes), false)
noncomputable def vars_known_2 (a0 : Bytes) (c0 : S_Env) : Option (Bytes × Bool) :=
 (pairs_Cookies c0.Cookie).bind fun x1 =>
 (pairs_Find x1 a0).bind fun x2 =>
 some (x2.1, x2.2)
noncomputable def text_Lower_b1 (a0 : Bytes) (x : (Int × (List UInt8))) : Option ((Int × (List UInt8)) ⊕ (List UInt8)) :=
 match x with
 | (s2, s3) =>
  bif (decide (s2 < ((a0.length : Nat) : Int))) then
   chk (0 ≤ s2 ∧ s2 < (a0.length : Int)) <|
   (idx s3 s2).bind fun x5 =>
   bif (bif (decide ((x5.toNat : Int) ≥ (65 : Int))) then (decide ((x5.toNat : Int) ≤ (90 : Int))) else false) then
    chk (0 ≤ s2 ∧ s2 < (a0.length : Int)) <|
    (seti s3 s2 (u8 (IntKind.u8.wrap ((IntKind.u8.wrap ((x5.toNat : Int) + (97 : Int))) - (65 : Int))))).bind fun x7 =>
    some (.inl ((IntKind.i64.wrap (s2 + (1 : Int))), x7))
   else
    some (.inl ((IntKind.i64.wrap (s2 + (1 : Int))), s3))
  else
   some (.inr s3)
noncomputable def text_Lower (a0 : Bytes) : Option Bytes :=
 (loopO (text_Lower_b1 a0) ((0 : Int), a0) : Option (List UInt8)).bind fun j1 =>
 chk (a0.length ≤ j1.length) <|
 some (j1.take a0.length)
noncomputable def pairs_hex (a0 : Int) : Option Int :=
 (text_Lower ([u8 a0] : List UInt8)).bind fun x1 =>
 (idx x1 (0 : Int)).bind fun x2 =>
 (strings_IndexByte ([48, 49, 50, 51, 52, 53, 54, 55, 56, 57, 97, 98, 99, 100, 101, 102] : Bytes) (x2.toNat : Int)).bind fun x3 =>
 some x3
noncomputable def pairs_plain_b1 (a0 : Bytes) (x : ((List UInt8) × Int)) : Option (((List UInt8) × Int) ⊕ (List UInt8)) :=
 match x with
 | (s2, s3) =>
  bif (decide (s3 < (a0.length : Int))) then
   (idx a0 s3).bind fun x4 =>
   bif ((x4.toNat : Int) == (43 : Int)) then
    (app 1 s2 ([u8 (32 : Int)] : List UInt8)).bind fun x5 =>
    some (.inl (x5, (IntKind.i64.wrap (s3 + (1 : Int)))))
   else
    (gidx (bif ((x4.toNat : Int) == (37 : Int)) then (decide ((IntKind.i64.wrap (s3 + (2 : Int))) < (a0.length : Int))) else false) a0 (IntKind.i64.wrap (s3 + (1 : Int)))).bind fun x6 =>
    (gcall (bif ((x4.toNat : Int) == (37 : Int)) then (decide ((IntKind.i64.wrap (s3 + (2 : Int))) < (a0.length : Int))) else false) (pairs_hex (x6.toNat : Int))).bind fun x7 =>
    (gidx (bif (bif ((x4.toNat : Int) == (37 : Int)) then (decide ((IntKind.i64.wrap (s3 + (2 : Int))) < (a0.length : Int))) else false) then (decide (x7 ≥ (0 : Int))) else false) a0 (IntKind.i64.wrap (s3 + (2 : Int)))).bind fun x8 =>
    (gcall (bif (bif ((x4.toNat : Int) == (37 : Int)) then (decide ((IntKind.i64.wrap (s3 + (2 : Int))) < (a0.length : Int))) else false) then (decide (x7 ≥ (0 : Int))) else false) (pairs_hex (x8.toNat : Int))).bind fun x9 =>
    bif (bif (bif (bif ((x4.toNat : Int) == (37 : Int)) then (decide ((IntKind.i64.wrap (s3 + (2 : Int))) < (a0.length : Int))) else false) then (decide (x7 ≥ (0 : Int))) else false) then (decide (x9 ≥ (0 : Int))) else false) then
     (idx a0 (IntKind.i64.wrap (s3 + (1 : Int)))).bind fun x10 =>
     (pairs_hex (x10.toNat : Int)).bind fun x11 =>
     (idx a0 (IntKind.i64.wrap (s3 + (2 : Int)))).bind fun x12 =>
     (pairs_hex (x12.toNat : Int)).bind fun x13 =>
     (app 1 s2 ([u8 (IntKind.u8.wrap (IntKind.i64.wrap ((IntKind.i64.wrap (x11 * (16 : Int))) + x13)))] : List UInt8)).bind fun x14 =>
     some (.inl (x14, (IntKind.i64.wrap ((IntKind.i64.wrap (s3 + (2 : Int))) + (1 : Int)))))
    else
     (app 1 s2 ([u8 (x4.toNat : Int)] : List UInt8)).bind fun x15 =>
     some (.inl (x15, (IntKind.i64.wrap (s3 + (1 : Int)))))
  else
   some (.inr s2)
noncomputable def pairs_plain (a0 : Bytes) : Option Bytes :=
 (loopO (pairs_plain_b1 a0) (([] : List UInt8), (0 : Int)) : Option (List UInt8)).bind fun j1 =>
 some j1
noncomputable def pairs_Query_1 (a0 : Bytes) (oc0 : (List S_Pair)) : Option (Unit × (List S_Pair)) :=
 (strings_Cut a0 ([61] : Bytes)).bind fun x1 =>
 (pairs_plain x1.1).bind fun x2 =>
 (pairs_plain x1.2.1).bind fun x3 =>
 (app 32 oc0 ([(S_Pair.mk x2 x3)] : List S_Pair)).bind fun x4 =>
 some ((), x4)
noncomputable def pairs_parts_pairs_Query_1_b1 (x1 : (List Bytes)) (x : (Int × (List S_Pair))) : Option ((Int × (List S_Pair)) ⊕ (Unit × (List S_Pair))) :=
 match x with
 | (s2, s3) =>
  bif (decide (s2 < (x1.length : Int))) then
   (idx x1 s2).bind fun x4 =>
   bif (!(x4 == ([] : Bytes))) then
    (pairs_Query_1 x4 s3).bind fun x5 =>
    some (.inl ((IntKind.i64.wrap (s2 + (1 : Int))), x5.2))
   else
    some (.inl ((IntKind.i64.wrap (s2 + (1 : Int))), s3))
  else
   some (.inr ((), s3))
noncomputable def pairs_parts_pairs_Query_1 (a0 : Bytes) (a1 : Bytes) (oa20 : (List S_Pair)) : Option (Unit × (List S_Pair)) :=
 (strings_Split a0 a1).bind fun x1 =>
 loopO (pairs_parts_pairs_Query_1_b1 x1) ((0 : Int), oa20)
noncomputable def pairs_Query (a0 : Bytes) : Option (List S_Pair) :=
 (pairs_parts_pairs_Query_1 a0 ([38] : Bytes) ([] : List S_Pair)).bind fun x1 =>
 some x1.2
noncomputable def vars_known_3 (a0 : Bytes) (c0 : S_Env) : Option (Bytes × Bool) :=
 (pairs_Query c0.Query).bind fun x1 =>
 (pairs_Find x1 a0).bind fun x2 =>
 some (x2.1, x2.2)
noncomputable def slices_Index__string_string_b1 (a0 : (List Bytes)) (a1 : Bytes) (s1 : Int) : Option (Int ⊕ Int) :=
 bif (decide (s1 < (a0.length : Int))) then
  (idx a0 s1).bind fun x2 =>
  bif (a1 == x2) then
   some (.inr s1)
  else
   some (.inl (IntKind.i64.wrap (s1 + (1 : Int))))
 else
  some (.inr (-1 : Int))
noncomputable def slices_Index__string_string (a0 : (List Bytes)) (a1 : Bytes) : Option Int :=
 loopO (slices_Index__string_string_b1 a0 a1) (0 : Int)
noncomputable def slices_Contains__string_string (a0 : (List Bytes)) (a1 : Bytes) : Option Bool :=
 (slices_Index__string_string a0 a1).bind fun x1 =>
 some (decide (x1 ≥ (0 : Int)))
noncomputable def pairs_Languages_1 (a0 : Bytes) (oc0 : (List Bytes)) : Option (Unit × (List Bytes)) :=
 (strings_Cut a0 ([59] : Bytes)).bind fun x1 =>
 (text_Trim x1.1).bind fun x2 =>
 (text_Lower x2).bind fun x3 =>
 (gcall (!(x3 == ([] : Bytes))) (slices_Contains__string_string oc0 x3)).bind fun x4 =>
 bif (bif (!(x3 == ([] : Bytes))) then (!x4) else false) then
  (app 16 oc0 ([x3] : List Bytes)).bind fun x5 =>
  some ((), x5)
 else
  some ((), oc0)
noncomputable def pairs_parts_pairs_Languages_1_b1 (x1 : (List Bytes)) (x : (Int × (List Bytes))) : Option ((Int × (List Bytes)) ⊕ (Unit × (List Bytes))) :=
 match x with
 | (s2, s3) =>
  bif (decide (s2 < (x1.length : Int))) then
   (idx x1 s2).bind fun x4 =>
   bif (!(x4 == ([] : Bytes))) then
    (pairs_Languages_1 x4 s3).bind fun x5 =>
    some (.inl ((IntKind.i64.wrap (s2 + (1 : Int))), x5.2))
   else
    some (.inl ((IntKind.i64.wrap (s2 + (1 : Int))), s3))
  else
   some (.inr ((), s3))
noncomputable def pairs_parts_pairs_Languages_1 (a0 : Bytes) (a1 : Bytes) (oa20 : (List Bytes)) : Option (Unit × (List Bytes)) :=
 (strings_Split a0 a1).bind fun x1 =>
 loopO (pairs_parts_pairs_Languages_1_b1 x1) ((0 : Int), oa20)
noncomputable def pairs_Languages (a0 : Bytes) : Option (List Bytes) :=
 (pairs_parts_pairs_Languages_1 a0 ([44] : Bytes) ([] : List Bytes)).bind fun x1 =>
 some x1.2
noncomputable def vars_known_4 (a0 : Bytes) (c0 : S_Env) : Option (Bytes × Bool) :=
 (pairs_Languages c0.Language).bind fun x1 =>
 (text_Lower a0).bind fun x2 =>
 (slices_Contains__string_string x1 x2).bind fun x3 =>
 bif x3 then
  some (([116, 114, 117, 101] : Bytes), true)
 else
  some (([102, 97, 108, 115, 101] : Bytes), true)
noncomputable def vars_Value (a0 : S_Env) (a1 : Bytes) (a2 : Bytes) : Option (Bytes × Bool) :=
 (vars_known a0).bind fun x1 =>
 bif (a1 == ([72, 84, 84, 80, 95, 72, 79, 83, 84] : Bytes)) then
  bif (!true) then
   some (([] : Bytes), false)
  else
   (vars_bare_1 a2 x1.1).bind fun x3 =>
   some (x3.1, x3.2)
 else
  bif (a1 == ([72, 84, 84, 80, 95, 82, 69, 70, 69, 82, 69, 82] : Bytes)) then
   bif (!true) then
    some (([] : Bytes), false)
   else
    (vars_bare_1 a2 x1.2.1).bind fun x5 =>
    some (x5.1, x5.2)
  else
   bif (a1 == ([72, 84, 84, 80, 95, 85, 83, 69, 82, 95, 65, 71, 69, 78, 84] : Bytes)) then
    bif (!true) then
     some (([] : Bytes), false)
    else
     (vars_of_1 a2 x1.2.2.1.1 (fun x0 => vars_known_1 x0 x1.2.2.1.2)).bind fun x7 =>
     some (x7.1, x7.2)
   else
    bif (a1 == ([72, 84, 84, 80, 95, 67, 79, 79, 75, 73, 69] : Bytes)) then
     bif (!true) then
      some (([] : Bytes), false)
     else
      (vars_of_1 a2 x1.2.2.2.1.1 (fun x0 => vars_known_2 x0 x1.2.2.2.1.2)).bind fun x9 =>
      some (x9.1, x9.2)
    else
     bif (a1 == ([81, 85, 69, 82, 89, 95, 83, 84, 82, 73, 78, 71] : Bytes)) then
      bif (!true) then
       some (([] : Bytes), false)
      else
       (vars_of_1 a2 x1.2.2.2.2.1.1 (fun x0 => vars_known_3 x0 x1.2.2.2.2.1.2)).bind fun x11 =>
       some (x11.1, x11.2)
     else
      bif (a1 == ([72, 84, 84, 80, 95, 65, 67, 67, 69, 80, 84, 95, 76, 65, 78, 71, 85, 65, 71, 69] : Bytes)) then
       bif (!true) then
        some (([] : Bytes), false)
       else
        (vars_of_1 a2 x1.2.2.2.2.2.1 (fun x0 => vars_known_4 x0 x1.2.2.2.2.2.2)).bind fun x13 =>
        some (x13.1, x13.2)
      else
       bif (!false) then
        some (([] : Bytes), false)
       else
        none
noncomputable def vars_Ref (a0 : S_Env) (a1 : Bytes) : Option (Bytes × Int) :=
 (strings_CutPrefix a1 ([36, 40] : Bytes)).bind fun x1 =>
 (vars_run x1.1 (fun x0 => vars_letter x0)).bind fun x2 =>
 bif (bif (!x1.2) then true else (x2 == (0 : Int))) then
  vars_Ref_1.bind fun x3 =>
  some (x3.1, x3.2)
 else
  (slc x1.1 0 x2).bind fun x4 =>
  (slc x1.1 x2 (x1.1.length : Int)).bind fun x5 =>
  (strings_HasPrefix x5 ([123] : Bytes)).bind fun x6 =>
  bif x6 then
   (slc x5 (1 : Int) (x5.length : Int)).bind fun x7 =>
   (vars_but ([125, 41, 124, 39, 10, 13] : Bytes)).bind fun x8 =>
   (vars_run x7 (fun x0 => vars_but_1 x0 x8)).bind fun x9 =>
   (slc x5 (1 : Int) (IntKind.i64.wrap ((1 : Int) + x9))).bind fun x10 =>
   (gslc (!(x9 == (0 : Int))) x5 (IntKind.i64.wrap ((1 : Int) + x9)) (x5.length : Int)).bind fun x11 =>
   (gcall (!(x9 == (0 : Int))) (strings_HasPrefix x11 ([125] : Bytes))).bind fun x12 =>
   bif (bif (x9 == (0 : Int)) then true else (!x12)) then
    vars_Ref_1.bind fun x13 =>
    some (x13.1, x13.2)
   else
    (slc x5 (IntKind.i64.wrap ((2 : Int) + x9)) (x5.length : Int)).bind fun x14 =>
    (strings_HasPrefix x14 ([124, 39] : Bytes)).bind fun x15 =>
    bif x15 then
     (slc x14 (2 : Int) (x14.length : Int)).bind fun x16 =>
     (strings_Cut x16 ([39] : Bytes)).bind fun x17 =>
     bif (!x17.2.2) then
      vars_Ref_1.bind fun x18 =>
      some (x18.1, x18.2)
     else
      (strings_HasPrefix x17.2.1 ([41] : Bytes)).bind fun x19 =>
      bif (!x19) then
       vars_Ref_1.bind fun x20 =>
       some (x20.1, x20.2)
      else
       (vars_Value a0 x4 x10).bind fun x21 =>
       bif (!x21.2) then
        some (x17.1, (IntKind.i64.wrap ((IntKind.i64.wrap ((a1.length : Int) - (x17.2.1.length : Int))) + (1 : Int))))
       else
        some (x21.1, (IntKind.i64.wrap ((IntKind.i64.wrap ((a1.length : Int) - (x17.2.1.length : Int))) + (1 : Int))))
    else
     (strings_HasPrefix x14 ([124] : Bytes)).bind fun x22 =>
     bif x22 then
      (slc x14 (1 : Int) (x14.length : Int)).bind fun x23 =>
      (vars_but ([39, 41, 124, 10, 13] : Bytes)).bind fun x24 =>
      (vars_run x23 (fun x0 => vars_but_1 x0 x24)).bind fun x25 =>
      (slc x14 (1 : Int) (IntKind.i64.wrap ((1 : Int) + x25))).bind fun x26 =>
      (slc x14 (IntKind.i64.wrap ((1 : Int) + x25)) (x14.length : Int)).bind fun x27 =>
      (strings_HasPrefix x27 ([41] : Bytes)).bind fun x28 =>
      bif (!x28) then
       vars_Ref_1.bind fun x29 =>
       some (x29.1, x29.2)
      else
       (vars_Value a0 x4 x10).bind fun x30 =>
       bif (!x30.2) then
        some (x26, (IntKind.i64.wrap ((IntKind.i64.wrap ((a1.length : Int) - (x27.length : Int))) + (1 : Int))))
       else
        some (x30.1, (IntKind.i64.wrap ((IntKind.i64.wrap ((a1.length : Int) - (x27.length : Int))) + (1 : Int))))
     else
      (strings_HasPrefix x14 ([41] : Bytes)).bind fun x31 =>
      bif (!x31) then
       vars_Ref_1.bind fun x32 =>
       some (x32.1, x32.2)
      else
       (vars_Value a0 x4 x10).bind fun x33 =>
       bif (!x33.2) then
        some (([] : Bytes), (IntKind.i64.wrap ((IntKind.i64.wrap ((a1.length : Int) - (x14.length : Int))) + (1 : Int))))
       else
        some (x33.1, (IntKind.i64.wrap ((IntKind.i64.wrap ((a1.length : Int) - (x14.length : Int))) + (1 : Int))))
  else
   (strings_HasPrefix x5 ([124, 39] : Bytes)).bind fun x34 =>
   bif x34 then
    (slc x5 (2 : Int) (x5.length : Int)).bind fun x35 =>
    (strings_Cut x35 ([39] : Bytes)).bind fun x36 =>
    bif (!x36.2.2) then
     vars_Ref_1.bind fun x37 =>
     some (x37.1, x37.2)
    else
     (strings_HasPrefix x36.2.1 ([41] : Bytes)).bind fun x38 =>
     bif (!x38) then
      vars_Ref_1.bind fun x39 =>
      some (x39.1, x39.2)
     else
      (vars_Value a0 x4 ([] : Bytes)).bind fun x40 =>
      bif (!x40.2) then
       some (x36.1, (IntKind.i64.wrap ((IntKind.i64.wrap ((a1.length : Int) - (x36.2.1.length : Int))) + (1 : Int))))
      else
       some (x40.1, (IntKind.i64.wrap ((IntKind.i64.wrap ((a1.length : Int) - (x36.2.1.length : Int))) + (1 : Int))))
   else
    (strings_HasPrefix x5 ([124] : Bytes)).bind fun x41 =>
    bif x41 then
     (slc x5 (1 : Int) (x5.length : Int)).bind fun x42 =>
     (vars_but ([39, 41, 124, 10, 13] : Bytes)).bind fun x43 =>
     (vars_run x42 (fun x0 => vars_but_1 x0 x43)).bind fun x44 =>
     (slc x5 (1 : Int) (IntKind.i64.wrap ((1 : Int) + x44))).bind fun x45 =>
     (slc x5 (IntKind.i64.wrap ((1 : Int) + x44)) (x5.length : Int)).bind fun x46 =>
     (strings_HasPrefix x46 ([41] : Bytes)).bind fun x47 =>
     bif (!x47) then
      vars_Ref_1.bind fun x48 =>
      some (x48.1, x48.2)
     else
      (vars_Value a0 x4 ([] : Bytes)).bind fun x49 =>
      bif (!x49.2) then
       some (x45, (IntKind.i64.wrap ((IntKind.i64.wrap ((a1.length : Int) - (x46.length : Int))) + (1 : Int))))
      else
       some (x49.1, (IntKind.i64.wrap ((IntKind.i64.wrap ((a1.length : Int) - (x46.length : Int))) + (1 : Int))))
    else
     (strings_HasPrefix x5 ([41] : Bytes)).bind fun x50 =>
     bif (!x50) then
      vars_Ref_1.bind fun x51 =>
      some (x51.1, x51.2)
     else
      (vars_Value a0 x4 ([] : Bytes)).bind fun x52 =>
      bif (!x52.2) then
       some (([] : Bytes), (IntKind.i64.wrap ((IntKind.i64.wrap ((a1.length : Int) - (x5.length : Int))) + (1 : Int))))
      else
       some (x52.1, (IntKind.i64.wrap ((IntKind.i64.wrap ((a1.length : Int) - (x5.length : Int))) + (1 : Int))))
noncomputable def stringslite_TrimPrefix (a0 : Bytes) (a1 : Bytes) : Option Bytes :=
 (stringslite_HasPrefix a0 a1).bind fun x1 =>
 bif x1 then
  (slc a0 (a1.length : Int) (a0.length : Int)).bind fun x2 =>
  some x2
 else
  some a0
noncomputable def strings_TrimPrefix (a0 : Bytes) (a1 : Bytes) : Option Bytes :=
 (stringslite_TrimPrefix a0 a1).bind fun x1 =>
 some x1
noncomputable def number_read_int64_b1 (a0 : Bytes) (a1 : Int) (a2i : Int → Option Int) (x : (Int × Bool × Int)) : Option ((Int × Bool × Int) ⊕ (Int × Int)) :=
 match x with
 | (s1, s2, s3) =>
  bif (decide (s3 < (a0.length : Int))) then
   (idx a0 s3).bind fun x4 =>
   (a2i (x4.toNat : Int)).bind fun x5 =>
   bif (decide (x5 ≥ a1)) then
    some (.inr ((0 : Int), (10 : Int)))
   else
    bif (decide ((IntKind.i64.wrap ((IntKind.i64.wrap (s1 * a1)) + x5)) > (1099511627776 : Int))) then
     some (.inl ((0 : Int), true, (IntKind.i64.wrap (s3 + (1 : Int)))))
    else
     some (.inl ((IntKind.i64.wrap ((IntKind.i64.wrap (s1 * a1)) + x5)), s2, (IntKind.i64.wrap (s3 + (1 : Int)))))
  else
   bif s2 then
    some (.inr ((0 : Int), (2 : Int)))
   else
    some (.inr (s1, (0 : Int)))
noncomputable def number_read_int64 (a0 : Bytes) (a1 : Int) (a2i : Int → Option Int) : Option (Int × Int) :=
 bif (a0 == ([] : Bytes)) then
  some ((0 : Int), (10 : Int))
 else
  loopO (number_read_int64_b1 a0 a1 a2i) ((0 : Int), false, (0 : Int))
noncomputable def number_Signed_1 (a0 : Int) : Option Int :=
 some (IntKind.i64.wrap (IntKind.u8.wrap (a0 - (48 : Int))))
noncomputable def number_Signed (a0 : Bytes) : Option (Int × Int) :=
 (strings_CutPrefix a0 ([45] : Bytes)).bind fun x1 =>
 (number_read_int64 x1.1 (10 : Int) (fun x0 => number_Signed_1 x0)).bind fun x2 =>
 bif x1.2 then
  some ((IntKind.i64.wrap (0 - x2.1)), x2.2)
 else
  some (x2.1, x2.2)
noncomputable def expr_parser_simple (o0 : S_expr_parser) : Option (S_Expr × S_expr_parser) :=
 (expr_parser_blanks o0).bind fun x1 =>
 (strings_CutPrefix x1.2.s ([39] : Bytes)).bind fun x2 =>
 bif x2.2 then
  (strings_Cut x2.1 ([39] : Bytes)).bind fun x3 =>
  bif (!x3.2.2) then
   (expr_parser_fail x1.2).bind fun x4 =>
   some (x4.1, x4.2)
  else
   some ((S_Expr.mk (2 : Int) (0 : Int) x3.1 ([] : Bytes) ([] : List S_Expr)), (S_expr_parser.mk x3.2.1 x1.2.bad))
 else
  (vars_Ref (S_Env.mk ([] : Bytes) ([] : Bytes) ([] : Bytes) ([] : Bytes) ([] : Bytes) ([] : Bytes)) x1.2.s).bind fun x5 =>
  bif (decide (x5.2 > (0 : Int))) then
   (slc x1.2.s 0 x5.2).bind fun x6 =>
   (slc x1.2.s x5.2 (x1.2.s.length : Int)).bind fun x7 =>
   some ((S_Expr.mk (3 : Int) (0 : Int) x6 ([] : Bytes) ([] : List S_Expr)), (S_expr_parser.mk x7 x1.2.bad))
  else
   (strings_TrimPrefix x1.2.s ([45] : Bytes)).bind fun x8 =>
   (strings_TrimLeft x8 ([48, 49, 50, 51, 52, 53, 54, 55, 56, 57] : Bytes)).bind fun x9 =>
   (slc x1.2.s 0 (IntKind.i64.wrap ((x1.2.s.length : Int) - (x9.length : Int)))).bind fun x10 =>
   (number_Signed x10).bind fun x11 =>
   bif (x11.2 != (0 : Int)) then
    (expr_parser_fail x1.2).bind fun x12 =>
    some (x12.1, x12.2)
   else
    some ((S_Expr.mk (1 : Int) x11.1 ([] : Bytes) ([] : Bytes) ([] : List S_Expr)), (S_expr_parser.mk x9 x1.2.bad))
noncomputable def expr_signs : Option (List Bytes) :=
 some ([([61, 61] : Bytes), ([33, 61] : Bytes), ([60, 61] : Bytes), ([62, 61] : Bytes), ([60] : Bytes), ([62] : Bytes)] : List Bytes)
noncomputable def expr_parser_sign_b1 (x1 : (List Bytes)) (x : (Int × S_expr_parser)) : Option ((Int × S_expr_parser) ⊕ (Bytes × S_expr_parser)) :=
 match x with
 | (s2, s3) =>
  bif (decide (s2 < (x1.length : Int))) then
   (idx x1 s2).bind fun x4 =>
   (expr_parser_eat s3 x4).bind fun x5 =>
   bif x5.1 then
    some (.inr (x4, x5.2))
   else
    some (.inl ((IntKind.i64.wrap (s2 + (1 : Int))), x5.2))
  else
   some (.inr (([] : Bytes), s3))
noncomputable def expr_parser_sign (o0 : S_expr_parser) : Option (Bytes × S_expr_parser) :=
 expr_signs.bind fun x1 =>
 loopO (expr_parser_sign_b1 x1) ((0 : Int), o0)
noncomputable def expr_parser_one_s (rec_expr_parser_any : S_expr_parser → Option (S_Expr × S_expr_parser)) (rec_expr_parser_one : S_expr_parser → Option (S_Expr × S_expr_parser)) (o0 : S_expr_parser) : Option (S_Expr × S_expr_parser) :=
 bif o0.bad then
  some ((S_Expr.mk (0 : Int) (0 : Int) ([] : Bytes) ([] : Bytes) ([] : List S_Expr)), o0)
 else
  (expr_parser_eat o0 ([33] : Bytes)).bind fun x1 =>
  bif x1.1 then
   (rec_expr_parser_one x1.2).bind fun x2 =>
   some ((S_Expr.mk (4 : Int) (0 : Int) ([] : Bytes) ([] : Bytes) ([x2.1] : List S_Expr)), x2.2)
  else
   (expr_parser_eat x1.2 ([40] : Bytes)).bind fun x3 =>
   bif x3.1 then
    (rec_expr_parser_any x3.2).bind fun x4 =>
    (expr_parser_eat x4.2 ([41] : Bytes)).bind fun x5 =>
    bif (!x5.1) then
     (expr_parser_fail x5.2).bind fun x6 =>
     some (x6.1, x6.2)
    else
     some (x4.1, x5.2)
   else
    (expr_parser_simple x3.2).bind fun x7 =>
    (expr_parser_sign x7.2).bind fun x8 =>
    bif (x8.1 == ([] : Bytes)) then
     some (x7.1, x8.2)
    else
     (expr_parser_simple x8.2).bind fun x9 =>
     some ((S_Expr.mk (7 : Int) (0 : Int) ([] : Bytes) x8.1 ([x7.1, x9.1] : List S_Expr)), x9.2)
noncomputable def expr_parser_one_r (rec_expr_parser_any : S_expr_parser → Option (S_Expr × S_expr_parser)) : Nat → S_expr_parser → Option (S_Expr × S_expr_parser)
 | 0 => fun _ => none
 | n + 1 => expr_parser_one_s rec_expr_parser_any (expr_parser_one_r rec_expr_parser_any n)
noncomputable def expr_parser_one (rec_expr_parser_any : S_expr_parser → Option (S_Expr × S_expr_parser)) (o0 : S_expr_parser) : Option (S_Expr × S_expr_parser) := expr_parser_one_r rec_expr_parser_any 1000000 o0
noncomputable def expr_parser_parts_expr_parser_one_b1 (rec_expr_parser_any : S_expr_parser → Option (S_Expr × S_expr_parser)) (a2 : Bytes) (x : ((List S_Expr) × S_expr_parser)) : Option (((List S_Expr) × S_expr_parser) ⊕ ((List S_Expr) × S_expr_parser)) :=
 match x with
 | (s3, s4) =>
  (expr_parser_eat s4 a2).bind fun x5 =>
  bif x5.1 then
   (expr_parser_one rec_expr_parser_any x5.2).bind fun x6 =>
   (app 72 s3 ([x6.1] : List S_Expr)).bind fun x7 =>
   some (.inl (x7, x6.2))
  else
   some (.inr (s3, x5.2))
noncomputable def expr_parser_parts_expr_parser_one (rec_expr_parser_any : S_expr_parser → Option (S_Expr × S_expr_parser)) (o0 : S_expr_parser) (a1 : Int) (a2 : Bytes) : Option (S_Expr × S_expr_parser) :=
 (expr_parser_one rec_expr_parser_any o0).bind fun x1 =>
 (loopO (expr_parser_parts_expr_parser_one_b1 rec_expr_parser_any a2) (([x1.1] : List S_Expr), x1.2) : Option ((List S_Expr) × S_expr_parser)).bind fun j2 =>
 bif ((j2.1.length : Int) == (1 : Int)) then
  (idx j2.1 (0 : Int)).bind fun x8 =>
  some (x8, j2.2)
 else
  some ((S_Expr.mk a1 (0 : Int) ([] : Bytes) ([] : Bytes) j2.1), j2.2)
noncomputable def expr_parser_any_1 (rec_expr_parser_any : S_expr_parser → Option (S_Expr × S_expr_parser)) (o0 : S_expr_parser) : Option (S_Expr × S_expr_parser) :=
 (expr_parser_parts_expr_parser_one rec_expr_parser_any o0 (5 : Int) ([38] : Bytes)).bind fun x1 =>
 some (x1.1, x1.2)
noncomputable def expr_parser_parts_expr_parser_any_1_b1 (rec_expr_parser_any : S_expr_parser → Option (S_Expr × S_expr_parser)) (a2 : Bytes) (x : ((List S_Expr) × S_expr_parser)) : Option (((List S_Expr) × S_expr_parser) ⊕ ((List S_Expr) × S_expr_parser)) :=
 match x with
 | (s3, s4) =>
  (expr_parser_eat s4 a2).bind fun x5 =>
  bif x5.1 then
   (expr_parser_any_1 rec_expr_parser_any x5.2).bind fun x6 =>
   (app 72 s3 ([x6.1] : List S_Expr)).bind fun x7 =>
   some (.inl (x7, x6.2))
  else
   some (.inr (s3, x5.2))
noncomputable def expr_parser_parts_expr_parser_any_1 (rec_expr_parser_any : S_expr_parser → Option (S_Expr × S_expr_parser)) (o0 : S_expr_parser) (a1 : Int) (a2 : Bytes) : Option (S_Expr × S_expr_parser) :=
 (expr_parser_any_1 rec_expr_parser_any o0).bind fun x1 =>
 (loopO (expr_parser_parts_expr_parser_any_1_b1 rec_expr_parser_any a2) (([x1.1] : List S_Expr), x1.2) : Option ((List S_Expr) × S_expr_parser)).bind fun j2 =>
 bif ((j2.1.length : Int) == (1 : Int)) then
  (idx j2.1 (0 : Int)).bind fun x8 =>
  some (x8, j2.2)
 else
  some ((S_Expr.mk a1 (0 : Int) ([] : Bytes) ([] : Bytes) j2.1), j2.2)
noncomputable def expr_parser_any_s (rec_expr_parser_any : S_expr_parser → Option (S_Expr × S_expr_parser)) (o0 : S_expr_parser) : Option (S_Expr × S_expr_parser) :=
 (expr_parser_parts_expr_parser_any_1 rec_expr_parser_any o0 (6 : Int) ([124] : Bytes)).bind fun x1 =>
 some (x1.1, x1.2)
noncomputable def expr_parser_any_r : Nat → S_expr_parser → Option (S_Expr × S_expr_parser)
 | 0 => fun _ => none
 | n + 1 => expr_parser_any_s (expr_parser_any_r n)
noncomputable def expr_parser_any (o0 : S_expr_parser) : Option (S_Expr × S_expr_parser) := expr_parser_any_r 1000000 o0
noncomputable def expr_few_b1 (x : ((List S_Expr) × Int)) : Option (((List S_Expr) × Int) ⊕ Bool) :=
 match x with
 | (s1, s2) =>
  bif (decide (s2 < (s1.length : Int))) then
   (idx s1 s2).bind fun x3 =>
   bif (decide ((x3.Kids.length : Int) > (IntKind.i64.wrap ((60 : Int) - (s1.length : Int))))) then
    some (.inr false)
   else
    (idx s1 s2).bind fun x4 =>
    (app 72 s1 x4.Kids).bind fun x5 =>
    some (.inl (x5, (IntKind.i64.wrap (s2 + (1 : Int)))))
  else
   some (.inr true)
noncomputable def expr_few (a0 : S_Expr) : Option Bool :=
 loopO expr_few_b1 (([a0] : List S_Expr), (0 : Int))
noncomputable def expr_row (a0 : S_Expr) : Option Bool :=
 some (bif (a0.Kind == (5 : Int)) then true else (a0.Kind == (6 : Int)))
noncomputable def expr_deep_b1 (rec_expr_deep : S_Expr → Option Int) (a0 : S_Expr) (x : (Int × Int)) : Option ((Int × Int) ⊕ Int) :=
 match x with
 | (s2, s3) =>
  bif (decide (s3 < (a0.Kids.length : Int))) then
   (idx a0.Kids s3).bind fun x4 =>
   (rec_expr_deep x4).bind fun x5 =>
   (expr_row x4).bind fun x6 =>
   bif x6 then
    some (.inl ((imax s2 (IntKind.i64.wrap (x5 + (1 : Int)))), (IntKind.i64.wrap (s3 + (1 : Int)))))
   else
    some (.inl ((imax s2 x5), (IntKind.i64.wrap (s3 + (1 : Int)))))
  else
   some (.inr s2)
noncomputable def expr_deep_s (rec_expr_deep : S_Expr → Option Int) (a0 : S_Expr) : Option Int :=
 (loopO (expr_deep_b1 rec_expr_deep a0) ((0 : Int), (0 : Int)) : Option Int).bind fun j1 =>
 bif (a0.Kind == (4 : Int)) then
  some (IntKind.i64.wrap (j1 + (1 : Int)))
 else
  some j1
noncomputable def expr_deep_r : Nat → S_Expr → Option Int
 | 0 => fun _ => none
 | n + 1 => expr_deep_s (expr_deep_r n)
noncomputable def expr_deep (a0 : S_Expr) : Option Int := expr_deep_r 1000000 a0
noncomputable def expr_Parse (a0 : Bytes) : Option (S_Expr × Int) :=
 bif (decide ((a0.length : Int) > (400 : Int))) then
  some ((S_Expr.mk (0 : Int) (0 : Int) ([] : Bytes) ([] : Bytes) ([] : List S_Expr)), (2 : Int))
 else
  (expr_parser_any (S_expr_parser.mk a0 false)).bind fun x1 =>
  (expr_parser_blanks x1.2).bind fun x2 =>
  bif (bif x2.2.bad then true else (!(x2.2.s == ([] : Bytes)))) then
   some ((S_Expr.mk (0 : Int) (0 : Int) ([] : Bytes) ([] : Bytes) ([] : List S_Expr)), (50 : Int))
  else
   (expr_few x1.1).bind fun x3 =>
   bif (!x3) then
    some ((S_Expr.mk (0 : Int) (0 : Int) ([] : Bytes) ([] : Bytes) ([] : List S_Expr)), (4 : Int))
   else
    (expr_deep x1.1).bind fun x4 =>
    bif (decide (x4 > (16 : Int))) then
     some ((S_Expr.mk (0 : Int) (0 : Int) ([] : Bytes) ([] : Bytes) ([] : List S_Expr)), (5 : Int))
    else
     some (x1.1, (0 : Int))
noncomputable def expr_simple (a0 : S_Expr) : Option Bool :=
 some (bif (bif (a0.Kind == (1 : Int)) then true else (a0.Kind == (2 : Int))) then true else (a0.Kind == (3 : Int)))
noncomputable def expr_leaf (a0 : S_Expr) : Option Bool :=
 bif (bif (!(a0.Sign == ([] : Bytes))) then true else (decide ((a0.Kids.length : Int) > (0 : Int)))) then
  some false
 else
  bif (a0.Kind == (1 : Int)) then
   some (bif (bif (a0.Text == ([] : Bytes)) then (decide (a0.N ≥ (-1099511627776 : Int))) else false) then (decide (a0.N ≤ (1099511627776 : Int))) else false)
  else
   bif (a0.Kind == (2 : Int)) then
    (gcall (a0.N == (0 : Int)) (strings_Contains a0.Text ([39] : Bytes))).bind fun x1 =>
    some (bif (a0.N == (0 : Int)) then (!x1) else false)
   else
    (vars_Ref (S_Env.mk ([] : Bytes) ([] : Bytes) ([] : Bytes) ([] : Bytes) ([] : Bytes) ([] : Bytes)) a0.Text).bind fun x2 =>
    some (bif (bif (a0.N == (0 : Int)) then (decide (x2.2 > (0 : Int))) else false) then (x2.2 == (a0.Text.length : Int)) else false)
noncomputable def slices_IndexFunc__api_Expr_api_Expr_b1 (a0 : (List S_Expr)) (a1i : S_Expr → Option Bool) (s1 : Int) : Option (Int ⊕ Int) :=
 bif (decide (s1 < (a0.length : Int))) then
  (idx a0 s1).bind fun x2 =>
  (a1i x2).bind fun x3 =>
  bif x3 then
   some (.inr s1)
  else
   some (.inl (IntKind.i64.wrap (s1 + (1 : Int))))
 else
  some (.inr (-1 : Int))
noncomputable def slices_IndexFunc__api_Expr_api_Expr (a0 : (List S_Expr)) (a1i : S_Expr → Option Bool) : Option Int :=
 loopO (slices_IndexFunc__api_Expr_api_Expr_b1 a0 a1i) (0 : Int)
noncomputable def slices_ContainsFunc__api_Expr_api_Expr (a0 : (List S_Expr)) (a1i : S_Expr → Option Bool) : Option Bool :=
 (slices_IndexFunc__api_Expr_api_Expr a0 a1i).bind fun x1 =>
 some (decide (x1 ≥ (0 : Int)))
noncomputable def expr_well_1 (rec_expr_well : S_Expr → Option Bool) (a0 : S_Expr) : Option Bool :=
 (rec_expr_well a0).bind fun x1 =>
 some (!x1)
noncomputable def expr_well_s (rec_expr_well : S_Expr → Option Bool) (a0 : S_Expr) : Option Bool :=
 (expr_simple a0).bind fun x1 =>
 bif x1 then
  (expr_leaf a0).bind fun x2 =>
  some x2
 else
  (gcall (!(bif (a0.N != (0 : Int)) then true else (!(a0.Text == ([] : Bytes))))) (slices_ContainsFunc__api_Expr_api_Expr a0.Kids (fun x0 => expr_well_1 rec_expr_well x0))).bind fun x3 =>
  bif (bif (bif (a0.N != (0 : Int)) then true else (!(a0.Text == ([] : Bytes)))) then true else x3) then
   some false
  else
   bif (a0.Kind == (7 : Int)) then
    expr_signs.bind fun x4 =>
    (slices_Contains__string_string x4 a0.Sign).bind fun x5 =>
    (gidx (bif x5 then ((a0.Kids.length : Int) == (2 : Int)) else false) a0.Kids (0 : Int)).bind fun x6 =>
    (gcall (bif x5 then ((a0.Kids.length : Int) == (2 : Int)) else false) (expr_simple x6)).bind fun x7 =>
    (gidx (bif (bif x5 then ((a0.Kids.length : Int) == (2 : Int)) else false) then x7 else false) a0.Kids (1 : Int)).bind fun x8 =>
    (gcall (bif (bif x5 then ((a0.Kids.length : Int) == (2 : Int)) else false) then x7 else false) (expr_simple x8)).bind fun x9 =>
    some (bif (bif (bif x5 then ((a0.Kids.length : Int) == (2 : Int)) else false) then x7 else false) then x9 else false)
   else
    bif (a0.Kind == (4 : Int)) then
     some (bif (a0.Sign == ([] : Bytes)) then ((a0.Kids.length : Int) == (1 : Int)) else false)
    else
     bif (a0.Kind == (5 : Int)) then
      bif (a0.Kind == (5 : Int)) then
       some (bif (a0.Sign == ([] : Bytes)) then (decide ((a0.Kids.length : Int) ≥ (2 : Int))) else false)
      else
       some false
     else
      bif (a0.Kind == (6 : Int)) then
       some (bif (a0.Sign == ([] : Bytes)) then (decide ((a0.Kids.length : Int) ≥ (2 : Int))) else false)
      else
       some false
noncomputable def expr_well_r : Nat → S_Expr → Option Bool
 | 0 => fun _ => none
 | n + 1 => expr_well_s (expr_well_r n)
noncomputable def expr_well (a0 : S_Expr) : Option Bool := expr_well_r 1000000 a0
noncomputable def expr_Right (a0 : S_Expr) : Option Bool :=
 (expr_few a0).bind fun x1 =>
 (gcall x1 (expr_well a0)).bind fun x2 =>
 (gcall (bif x1 then x2 else false) (expr_deep a0)).bind fun x3 =>
 some (bif (bif x1 then x2 else false) then (decide (x3 ≤ (16 : Int))) else false)
noncomputable def expr_holds_2 (rec_expr_holds : S_Env → S_Expr → Option Bool) (a0 : S_Expr) (c0 : S_Env) : Option Bool :=
 (rec_expr_holds c0 a0).bind fun x1 =>
 some (!x1)
noncomputable def expr_holds_1 (rec_expr_holds : S_Env → S_Expr → Option Bool) (a0 : S_Expr) (c0 : S_Env) : Option Bool :=
 (rec_expr_holds c0 a0).bind fun x1 =>
 some x1
noncomputable def number_Dec (a0 : Int) : Option Bytes :=
 (strconv_FormatUint a0 (10 : Int)).bind fun x1 =>
 some x1
noncomputable def expr_write_b1 (rec_expr_write : S_Expr → Option Bytes) (a0 : S_Expr) (x : ((List Bytes) × Int)) : Option (((List Bytes) × Int) ⊕ (List Bytes)) :=
 match x with
 | (s2, s3) =>
  bif (decide (s3 < (a0.Kids.length : Int))) then
   (idx a0.Kids s3).bind fun x4 =>
   (rec_expr_write x4).bind fun x5 =>
   (expr_row x4).bind fun x6 =>
   bif x6 then
    (cat ([40] : Bytes) x5).bind fun x7 =>
    (cat x7 ([41] : Bytes)).bind fun x8 =>
    (app 16 s2 ([x8] : List Bytes)).bind fun x9 =>
    some (.inl (x9, (IntKind.i64.wrap (s3 + (1 : Int)))))
   else
    (app 16 s2 ([x5] : List Bytes)).bind fun x10 =>
    some (.inl (x10, (IntKind.i64.wrap (s3 + (1 : Int)))))
  else
   some (.inr s2)
noncomputable def expr_write_s (rec_expr_write : S_Expr → Option Bytes) (a0 : S_Expr) : Option Bytes :=
 (loopO (expr_write_b1 rec_expr_write a0) (([] : List Bytes), (0 : Int)) : Option (List Bytes)).bind fun j1 =>
 bif (a0.Kind == (1 : Int)) then
  bif (decide (a0.N < (0 : Int))) then
   (number_Dec (IntKind.u64.wrap (IntKind.i64.wrap (0 - a0.N)))).bind fun x11 =>
   (cat ([45] : Bytes) x11).bind fun x12 =>
   some x12
  else
   (number_Dec (IntKind.u64.wrap a0.N)).bind fun x13 =>
   some x13
 else
  bif (a0.Kind == (2 : Int)) then
   (cat ([39] : Bytes) a0.Text).bind fun x14 =>
   (cat x14 ([39] : Bytes)).bind fun x15 =>
   some x15
  else
   bif (a0.Kind == (3 : Int)) then
    some a0.Text
   else
    bif (a0.Kind == (4 : Int)) then
     (idx j1 (0 : Int)).bind fun x16 =>
     (cat ([33] : Bytes) x16).bind fun x17 =>
     some x17
    else
     bif (a0.Kind == (5 : Int)) then
      (strings_Join j1 ([38] : Bytes)).bind fun x18 =>
      some x18
     else
      bif (a0.Kind == (6 : Int)) then
       (strings_Join j1 ([124] : Bytes)).bind fun x19 =>
       some x19
      else
       (strings_Join j1 a0.Sign).bind fun x20 =>
       some x20
noncomputable def expr_write_r : Nat → S_Expr → Option Bytes
 | 0 => fun _ => none
 | n + 1 => expr_write_s (expr_write_r n)
noncomputable def expr_write (a0 : S_Expr) : Option Bytes := expr_write_r 1000000 a0
noncomputable def expr_value (a0 : S_Env) (a1 : S_Expr) : Option Bytes :=
 bif (a1.Kind == (2 : Int)) then
  some a1.Text
 else
  bif (a1.Kind == (3 : Int)) then
   (vars_Ref a0 a1.Text).bind fun x1 =>
   some x1.1
  else
   (expr_write a1).bind fun x2 =>
   some x2
noncomputable def expr_against (a0 : Bytes) (a1 : Bytes) : Option Int :=
 (number_Signed a0).bind fun x1 =>
 (number_Signed a1).bind fun x2 =>
 bif (bif (x1.2 != (0 : Int)) then true else (x2.2 != (0 : Int))) then
  (strings_Compare a0 a1).bind fun x3 =>
  some x3
 else
  bif (decide (x1.1 < x2.1)) then
   some (-1 : Int)
  else
   bif (decide (x1.1 > x2.1)) then
    some (1 : Int)
   else
    some (0 : Int)
noncomputable def expr_holds_s (rec_expr_holds : S_Env → S_Expr → Option Bool) (a0 : S_Env) (a1 : S_Expr) : Option Bool :=
 bif (a1.Kind == (1 : Int)) then
  some (a1.N != (0 : Int))
 else
  bif (a1.Kind == (4 : Int)) then
   (idx a1.Kids (0 : Int)).bind fun x1 =>
   (expr_holds_2 rec_expr_holds x1 a0).bind fun x2 =>
   some x2
  else
   bif (a1.Kind == (5 : Int)) then
    (slices_ContainsFunc__api_Expr_api_Expr a1.Kids (fun x0 => expr_holds_2 rec_expr_holds x0 a0)).bind fun x3 =>
    some (!x3)
   else
    bif (a1.Kind == (6 : Int)) then
     (slices_ContainsFunc__api_Expr_api_Expr a1.Kids (fun x0 => expr_holds_1 rec_expr_holds x0 a0)).bind fun x4 =>
     some x4
    else
     bif (a1.Kind == (7 : Int)) then
      (idx a1.Kids (0 : Int)).bind fun x5 =>
      (expr_value a0 x5).bind fun x6 =>
      (idx a1.Kids (1 : Int)).bind fun x7 =>
      (expr_value a0 x7).bind fun x8 =>
      (expr_against x6 x8).bind fun x9 =>
      bif (a1.Sign == ([61, 61] : Bytes)) then
       some (x9 == (0 : Int))
      else
       bif (a1.Sign == ([33, 61] : Bytes)) then
        some (x9 != (0 : Int))
       else
        bif (a1.Sign == ([60] : Bytes)) then
         some (decide (x9 < (0 : Int)))
        else
         bif (a1.Sign == ([62] : Bytes)) then
          some (decide (x9 > (0 : Int)))
         else
          bif (a1.Sign == ([60, 61] : Bytes)) then
           some (decide (x9 ≤ (0 : Int)))
          else
           some (decide (x9 ≥ (0 : Int)))
     else
      (expr_value a0 a1).bind fun x10 =>
      some (x10 == ([116, 114, 117, 101] : Bytes))
noncomputable def expr_holds_r : Nat → S_Env → S_Expr → Option Bool
 | 0 => fun _ _ => none
 | n + 1 => expr_holds_s (expr_holds_r n)
noncomputable def expr_holds (a0 : S_Env) (a1 : S_Expr) : Option Bool := expr_holds_r 1000000 a0 a1
noncomputable def expr_Eval (a0 : S_Env) (a1 : S_Expr) : Option (Bool × Int) :=
 (expr_Right a1).bind fun x1 =>
 bif (!x1) then
  some (false, (1 : Int))
 else
  (expr_holds a0 a1).bind fun x2 =>
  some (x2, (0 : Int))
noncomputable def expr_Test (a0 : S_Env) (a1 : Bytes) : Option (Bool × Int) :=
 (expr_Parse a1).bind fun x1 =>
 bif (x1.2 != (0 : Int)) then
  some (false, x1.2)
 else
  (expr_Eval a0 x1.1).bind fun x2 =>
  some (x2.1, x2.2)
noncomputable def intarsialaw18_alive : Option Bool :=
 (expr_Test (S_Env.mk ([] : Bytes) ([] : Bytes) ([] : Bytes) ([] : Bytes) ([] : Bytes) ([] : Bytes)) ([49, 61, 61, 49, 32, 38, 32, 33, 40, 39, 97, 39, 62, 39, 98, 39, 41] : Bytes)).bind fun x1 =>
 (expr_Test (S_Env.mk ([] : Bytes) ([] : Bytes) ([] : Bytes) ([] : Bytes) ([] : Bytes) ([] : Bytes)) ([49, 48, 60, 57] : Bytes)).bind fun x2 =>
 some (bif (bif (bif (x1.2 == (0 : Int)) then (x2.2 == (0 : Int)) else false) then x1.1 else false) then (!x2.1) else false)
noncomputable def intarsialaw18_ExprSpaces_b1 (a2 : Bytes) (x : (Bytes × Int)) : Option ((Bytes × Int) ⊕ Bytes) :=
 match x with
 | (s4, s5) =>
  bif (decide (s5 < (imin (a2.length : Int) (1 : Int)))) then
   (idx a2 s5).bind fun x6 =>
   (strings_IndexByte ([32, 9, 10, 13] : Bytes) (x6.toNat : Int)).bind fun x7 =>
   bif (decide (x7 ≥ (0 : Int))) then
    (slc a2 s5 (IntKind.i64.wrap (s5 + (1 : Int)))).bind fun x8 =>
    some (.inl (x8, (IntKind.i64.wrap (s5 + (1 : Int)))))
   else
    some (.inl (s4, (IntKind.i64.wrap (s5 + (1 : Int)))))
  else
   some (.inr s4)
noncomputable def intarsialaw18_ExprSpaces (a0 : S_Env) (a1 : Bytes) (a2 : Bytes) : Option Bool :=
 (intarsialaw18_few a0).bind fun x1 =>
 (slc a1 0 (imin (a1.length : Int) (120 : Int))).bind fun x2 =>
 (loopO (intarsialaw18_ExprSpaces_b1 a2) (([32] : Bytes), (0 : Int)) : Option Bytes).bind fun j3 =>
 (expr_Test x1 x2).bind fun x9 =>
 (intarsiaref18_Words x2).bind fun x10 =>
 bif (bif (x9.2 != (0 : Int)) then true else (!x10.2)) then
  intarsialaw18_alive.bind fun x11 =>
  some (bif x11 then (!x9.1) else false)
 else
  (strings_Join x10.1 j3).bind fun x12 =>
  (cat j3 x12).bind fun x13 =>
  (cat x13 j3).bind fun x14 =>
  (expr_Test x1 x14).bind fun x15 =>
  (cat ([40] : Bytes) x2).bind fun x16 =>
  (cat x16 ([41] : Bytes)).bind fun x17 =>
  (expr_Test x1 x17).bind fun x18 =>
  intarsialaw18_alive.bind fun x19 =>
  some (bif (bif (bif (bif x19 then (x15.2 == (0 : Int)) else false) then (x15.1 == x9.1) else false) then (x18.2 == (0 : Int)) else false) then (x18.1 == x9.1) else false)
end Go.Proofs.YtdobepgddhbncaaGreatDoor
