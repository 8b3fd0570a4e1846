/-
  Generic: calls by contract; the dispatch over operations; rows of operations.
-/
import Derived.Test.YtpionnihpibglaaGreatDoorPm12m
namespace Go.Pm
open Go Go.RowKit
set_option linter.unusedVariables false
set_option linter.unusedSimpArgs false
def AV.puD : AV → Bool
 | .agg cs => cs.all AV.puB
 | .fn _ a b => a.all AV.puB && b.all AV.puB
 | a => AV.puB a
theorem AV.puD_ok {a : AV} (h : a.puD = true) : Pu a := by
 unfold AV.puD at h
 split at h
 ·exact .agg _ fun c hc => AV.puB_ok (List.all_eq_true.1 h c hc)
 ·simp only [Bool.and_eq_true, List.all_eq_true] at h
  exact .fn _ _ _ (fun c hc => AV.puB_ok (h.1 c hc)) (fun c hc => AV.puB_ok (h.2 c hc))
 ·exact AV.puB_ok h
structure GoodW (E : Env) (F : Nat → Nat → Prop) (w : World) : Prop where
 fin : ∀ b o, F b o → b < w.heap.size
 glob : ∀ b, b < E.GB → w.heap[b]? = E.W0.heap[b]?
 gb : E.GB ≤ w.heap.size
def OwnRes (w : World) (F' : Nat → Nat → Prop) (w' : World) (v : Value) (r : AV) : Prop :=
 ∃ sz xs n cap g lo hi ad, r = .list sz xs ∧ v = .slice ad n cap ∧ n = xs.length ∧ n ≤ cap ∧ cap ≤ maxLen ∧
  (n = cap ∨ (lo < hi ∧ (∃ o, ad = some ⟨g, o, none⟩ ∧ lo = o + n * sz ∧ hi = o + cap * sz) ∧ w.heap.size ≤ g ∧ (∀ x, lo ≤ x → ¬ F' g x) ∧ ∃ vals t fz, w'.heap[g]? = some (.cells vals t fz) ∧ hi ≤ vals.size ∧ ∀ x, lo ≤ x → x < hi → ¬ inFz fz x))
def bodied (P : Program) (f : FuncId) : Prop := ∃ fn, P.funcs[f]? = some fn ∧ (fn.name == "runtime.NumGoroutine") = false ∧ fn.body.isNone = false
def FnB (E : Env) (P : Program) (f : FuncId) (args : List AV) (r : AV) (own : Bool) : Prop :=
 bodied P f ∧ ∀ (F : Nat → Nat → Prop) (w : World) (vals : List Value), GoodW E F w → vals.length = args.length → (∀ (i : Nat) (v : Value) (c : AV), vals[i]? = some v → args[i]? = some c → Rep F w (fun _ => none) v c) →
  Calls P f vals.toArray w fun e w' => ∃ v F', e = .returned v ∧ Below w.heap.size w w' ∧ (∀ b o, F b o → F' b o) ∧ (∀ b o, F' b o → b < w'.heap.size ∧ (F b o ∨ w.heap.size ≤ b)) ∧
   Rep F' w' (fun _ => none) v r ∧ (own = true → OwnRes w F' w' v r)
def FnX (P : Program) (f : FuncId) (args : List AV) (r : AV) (own : Bool) : Prop :=
 own = false ∧ ∀ (w : World) (vals : List Value), vals.length = args.length → (∃ F, ∀ (i : Nat) (v : Value) (c : AV), vals[i]? = some v → args[i]? = some c → Rep F w (fun _ => none) v c) →
  ∃ v, (callFunc f vals.toArray).run P w = .ok (.value v) w ∧ ∀ F, Rep F w (fun _ => none) v r
def FnR (E : Env) (P : Program) (f : FuncId) (args : List AV) (r : AV) (own : Bool) : Prop := FnB E P f args r own ∨ FnX P f args r own
def aliveO : Nat → List AObj → List Loc
 | _, [] => []
 | i, .dead :: l => aliveO (i + 1) l
 | i, .cells .. :: l | i, .mp .. :: l => .obj i :: aliveO (i + 1) l
def aliveT : Nat → List Nat → List Loc
 | _, [] => []
 | i, 0 :: l => aliveT (i + 1) l
 | i, _ :: l => .tok i :: aliveT (i + 1) l
def newT : Nat → Nat → List Loc
 | _, 0 => []
 | i, n + 1 => .tok i :: newT (i + 1) n
def wLocs (H : List AObj) (k : List Nat) (n : Nat) : List Loc := aliveO 0 H ++ (aliveT 0 k ++ newT k.length n)
structure FnW (E : Env) (P : Program) (f : FuncId) (args : List AV) (H : List AObj) (k : List Nat) (r : AV) (tag : Option Nat) (H' : List AObj) (k' : List Nat) : Prop where
 bodied : bodied P f
 lenH : H'.length = H.length
 lenk : k.length ≤ k'.length
 run : ∀ (B : Base) (G : Gh) (w : World) (vals : List Value), Good E B G w → (∀ l, l ∈ wLocs H k (k'.length - k.length) → RepH G w H k l) → vals.length = args.length →
  (∀ (i : Nat) (v : Value) (c : AV), vals[i]? = some v → args[i]? = some c → Rep G.F w G.ι v c) →
  Calls P f vals.toArray w fun e w' => ∃ v G', e = .returned v ∧ Good E B G' w' ∧ FrH G w G' w' (wLocs H k (k'.length - k.length)) ∧ RepSlot G' w' v r tag ∧ ∀ l, l ∈ wLocs H k (k'.length - k.length) → RepH G' w' H' k' l
def maskH (ids : List Nat) : Nat → List AObj → List AObj
 | _, [] => []
 | i, x :: l => (bif ids.contains i then x else .dead) :: maskH ids (i + 1) l
def maskK (ids : List Nat) : Nat → List Nat → List Nat
 | _, [] => []
 | i, x :: l => (bif ids.contains i then x else 0) :: maskK ids (i + 1) l
def mergeH : List AObj → List AObj → List AObj → List AObj
 | x :: l, .dead :: m, _ :: n => x :: mergeH l m n
 | _ :: l, .cells .. :: m, z :: n | _ :: l, .mp .. :: m, z :: n => z :: mergeH l m n
 | l, _, _ => l
def mergeK : List Nat → List Nat → List Nat → List Nat
 | x :: l, 0 :: m, _ :: n => x :: mergeK l m n
 | _ :: l, (_ + 1) :: m, z :: n => z :: mergeK l m n
 | _, _, n => n
inductive CallF (E : Env) (P : Program) (g : Bool) (f : FuncId) (args : List AV) (K : AV → Bool → Prop) : Prop
 | mk (r : AV) (own : Bool) (h : g = true → FnR E P f args r own) (hk : K r own) : CallF E P g f args K
section
variable {E : Env} {P : Program} {T : Tab} {st : St} {o : Oper}
theorem below_good {B : Base} {G : Gh} {w w' : World} (hg : Good E B G w) {F' : Nat → Nat → Prop} (hb : Below w.heap.size w w') (h1 : ∀ b o, G.F b o → F' b o) (h2 : ∀ b o, F' b o → b < w'.heap.size ∧ (G.F b o ∨ w.heap.size ≤ b)) :
  Good E B { G with F := F' } w' ∧ FrH G w { G with F := F' } w' [] := by
 have hx : Ext G w { G with F := F' } w' := ⟨h1, fun _ _ h => h, fun _ _ h => h, fun b o hbo => cell_congr (hb.block b (hg.fin b o hbo))⟩
 have hF : ∀ g i, G.O g = some i → ∀ x, F' g x → G.F g x := fun g i hi x hx' => ((h2 g x hx').2).resolve_right (fun hh => absurd (hg.own g i hi).1 (by omega))
 refine ⟨hg.step hb.size (fun b hlt _ => hb.block b hlt) hx.w h1 (fun b o hbo => ⟨(h2 b o hbo).1, (h2 b o hbo).2.elim .inl (fun h => .inr (.inl h))⟩) (fun b i hi => ⟨by have := (hg.own b i hi).1; have := hb.size; omega, .inr (by
  have : G.O b = some i := hi
  rw [this]; simp)⟩) hb.os hb.tape hb.output hx, hx, fun i c _ hc => hc.keep hx (fun h => h) fun g hgo => ⟨hgo, hb.block g (hg.own g _ hgo).1, hF g _ hgo⟩, fun i c _ hc => hc.keep hx (fun h => h) fun g hgo => ⟨hgo, hb.block g (hg.own g _ hgo).1, hF g _ hgo⟩⟩
def calleeE (T : Tab) (st : St) (g : Bool) (f : Operand) (args : List (TypeId × Operand)) (k : FuncId → List AV → Prop) : Prop :=
 unc g (evV T st 0 f) fun fv => match fv with
 | .fn f a b => k f (a ++ args.map (fun x => evV T st x.1 x.2) ++ b)
 | _ => False
theorem calleeE_ok {g : Bool} {f : Operand} {args : Array Operand} {tys : Array TypeId} (hl : tys.toList.length = args.toList.length) (hc : constOk T o = true) (ho : o.op = .call { callee := .value f, args := args, argTypes := tys }) {k : FuncId → List AV → Prop}
  (h : calleeE T st g f (tys.toList.zip args.toList) k) : ∃ fid as, k fid as ∧ (g = true → ∀ (B : Base) (G : Gh) (w : World) (a : Act), Good E B G w → (∀ l, l ∈ opN f ++ args.toList.flatMap opN → RepL G w a l st) →
   ∃ vals : List Value, (execOp a.eval o).run P w = (callFunc fid vals.toArray).run P w ∧ vals.length = as.length ∧ ∀ (i : Nat) (v : Value) (c : AV), vals[i]? = some v → as[i]? = some c → Rep G.F w G.ι v c) := by
 unfold calleeE at h
 obtain ⟨fv, h, hfv⟩ := unc_ok h
 split at h
 ·rename_i fid fa fb
  refine ⟨fid, _, h, fun hgg B G w a hg hN => ?_⟩
  have r := hfv hgg _ _ _ _ (evV_ok (T := T) hg (constOk.at hc (ty := 0) (x := f) (by simp [opcs, ho])) fun l hl => hN l (List.mem_append_left _ hl)).1
  generalize hv : a.eval f = vf at *
  cases r with
  | fn _ _ fs cs _ _ hl1 hl2 hr1 hr2 =>
  refine ⟨fs ++ args.toList.map a.eval ++ cs, ?_, by simp [hl1, hl2, hl], fun i v c hi hci => ?_⟩
  ·simp only [execOp, ho, resolve, Sem.run_bind, hv, Deferred.ofValue, Sem.run_pure, Result.andThen_ok, invoke]
   congr 2
   apply Array.ext'
   simp
  ·have hz : ∀ (j : Nat), j < args.toList.length → ∀ c, ((tys.toList.zip args.toList).map fun x => evV T st x.1 x.2)[j]? = some c → ∀ v, (args.toList.map a.eval)[j]? = some v → Rep G.F w G.ι v c := by
    intro j hj c hc' v hv'
    have ht : tys.toList[j]? = some tys.toList[j] := List.getElem?_eq_getElem (by omega)
    have hx : args.toList[j]? = some args.toList[j] := List.getElem?_eq_getElem hj
    rw [List.getElem?_map] at hc' hv'
    rw [hx] at hv'
    rw [(List.getElem?_zip_eq_some (z := (tys.toList[j], args.toList[j]))).2 ⟨ht, hx⟩] at hc'
    simp only [Option.map_some, Option.some.injEq] at hc' hv'
    subst hc' hv'
    exact (evV_ok (T := T) hg (constOk.at hc (by
     simp only [opcs, ho]
     exact List.mem_append_right _ (List.mem_of_getElem? ((List.getElem?_zip_eq_some (z := (tys.toList[j], args.toList[j]))).2 ⟨ht, hx⟩)))) fun l hl => hN l (List.mem_append_right _ (List.mem_flatMap.2 ⟨_, List.mem_of_getElem? hx, hl⟩))).1
   have hla : (args.toList.map a.eval).length = ((tys.toList.zip args.toList).map fun x => evV T st x.1 x.2).length := by simp [hl]
   rcases Nat.lt_or_ge i fs.length with h1 | h1
   ·rw [List.getElem?_append_left (by simp; omega), List.getElem?_append_left h1] at hi
    rw [List.getElem?_append_left (by simp; omega), List.getElem?_append_left (by omega)] at hci
    exact hr1 i v c hi hci
   ·rcases Nat.lt_or_ge i (fs.length + args.toList.length) with h2 | h2
    ·rw [List.getElem?_append_left (by simp at h2 ⊢; omega), List.getElem?_append_right h1] at hi
     rw [List.getElem?_append_left (by simp [hl] at h2 ⊢; omega), List.getElem?_append_right (by omega)] at hci
     rw [← hl1] at hci
     exact hz (i - fs.length) (by omega) c hci v hi
    ·rw [List.getElem?_append_right (by simp at h2 ⊢; omega)] at hi
     rw [List.getElem?_append_right (by simp [hl] at h2 ⊢; omega)] at hci
     have e1 : (fs ++ args.toList.map a.eval).length = (fa ++ (tys.toList.zip args.toList).map fun x => evV T st x.1 x.2).length := by rw [List.length_append, List.length_append, hla, hl1]
     rw [← e1] at hci
     exact hr2 _ v c hi hci
 ·exact h.elim
theorem run_call {P : Program} {f : FuncId} (hb : bodied P f) (vals : Array Value) (w : World) : (callFunc f vals).run P w = .ok (.enter f vals) w := by
 obtain ⟨fn, h1, h2, h3⟩ := hb
 simp only [callFunc, Sem.run_bind, run_program, Result.andThen_ok, h1, h2, h3, Bool.false_eq_true, if_false]
 rfl
def uncs (g : Bool) : List AV → (List AV → Prop) → Prop
 | [], k => k []
 | a :: l, k => unc g a fun a' => uncs g l fun l' => k (a' :: l')
theorem uncs_ok {g : Bool} : ∀ {l : List AV} {k : List AV → Prop}, uncs g l k →
  ∃ l', k l' ∧ l'.length = l.length ∧ (g = true → ∀ (F : Nat → Nat → Prop) (w : World) (ι : Nat → Option Nat) (i : Nat) (v : Value) (c' : AV), l'[i]? = some c' → (∀ c, l[i]? = some c → Rep F w ι v c) → Rep F w ι v c')
 | [], k, h => ⟨[], h, rfl, fun _ F w ι i v c' hc => by simp at hc⟩
 | a :: l, k, h => by
  obtain ⟨a', h, ha⟩ := unc_ok h
  obtain ⟨l', h, hl, hr⟩ := uncs_ok h
  refine ⟨a' :: l', h, by simp [hl], fun hg F w ι i v c' hc hv => ?_⟩
  cases i with
  | zero =>
   simp only [List.getElem?_cons_zero, Option.some.injEq] at hc
   subst hc
   exact ha hg F w ι v (hv a rfl)
  | succ i => exact hr hg F w ι i v c' (by simpa using hc) fun c h => hv c (by simpa using h)
def uncsN (g : Bool) : Nat → List AV → (List AV → Prop) → Prop
 | 0, l, k => k l
 | _ + 1, [], k => k []
 | n + 1, a :: l, k => unc g a fun a' => uncsN g n l fun l' => k (a' :: l')
theorem uncsN_ok {g : Bool} : ∀ {n : Nat} {l : List AV} {k : List AV → Prop}, uncsN g n l k →
  ∃ l', k l' ∧ l'.length = l.length ∧ (g = true → ∀ (F : Nat → Nat → Prop) (w : World) (ι : Nat → Option Nat) (i : Nat) (v : Value) (c' : AV), l'[i]? = some c' → (∀ c, l[i]? = some c → Rep F w ι v c) → Rep F w ι v c')
 | 0, l, k, h => ⟨l, h, rfl, fun _ F w ι i v c' hc hv => hv c' hc⟩
 | _ + 1, [], k, h => ⟨[], h, rfl, fun _ F w ι i v c' hc => by simp at hc⟩
 | n + 1, a :: l, k, h => by
  obtain ⟨a', h, ha⟩ := unc_ok h
  obtain ⟨l', h, hl, hr⟩ := uncsN_ok h
  refine ⟨a' :: l', h, by simp [hl], fun hg F w ι i v c' hc hv => ?_⟩
  cases i with
  | zero =>
   simp only [List.getElem?_cons_zero, Option.some.injEq] at hc
   subst hc
   exact ha hg F w ι v (hv a rfl)
  | succ i => exact hr hg F w ι i v c' (by simpa using hc) fun c h => hv c (by simpa using h)
def evCallP (E : Env) (P : Program) (T : Tab) (st : St) (g : Bool) (f : Operand) (args : List (TypeId × Operand)) (k : AV → Option Nat → List Loc → Prop) : Prop :=
 calleeE T st g f args fun fid as => uncs g as fun as => as.all AV.puD = true ∧ CallF E P g fid as fun r own => own = false ∧ k r none (opN f ++ args.flatMap fun x => opN x.2)
theorem zip_flat {tys : List TypeId} {args : List Operand} (hl : tys.length = args.length) : (tys.zip args).flatMap (fun x => opN x.2) = args.flatMap opN := by
 induction tys generalizing args with
 | nil => cases args with | nil => rfl | cons _ _ => simp at hl
 | cons t tys ih =>
  cases args with
  | nil => simp at hl
  | cons x args => simp only [List.zip_cons_cons, List.flatMap_cons]; rw [ih (by simpa using hl)]
theorem pure_args {G : Gh} {w : World} {vals : List Value} {as : List AV} (hp : as.all AV.puD = true) (h : ∀ (i : Nat) (v : Value) (c : AV), vals[i]? = some v → as[i]? = some c → Rep G.F w G.ι v c) :
  ∀ (i : Nat) (v : Value) (c : AV), vals[i]? = some v → as[i]? = some c → Rep G.F w (fun _ => none) v c := fun i v c hv hc =>
 (h i v c hv hc).pure (AV.puD_ok (List.all_eq_true.1 hp c (List.mem_of_getElem? hc))) _
theorem goodW {B : Base} {G : Gh} {w : World} (h : Good E B G w) : GoodW E G.F w := ⟨h.fin, h.glob, h.gb⟩
theorem evCallP_ok {g : Bool} {k : AV → Option Nat → List Loc → Prop} {f : Operand} {args : Array Operand} {tys : Array TypeId} (hl : tys.toList.length = args.toList.length) (hc : constOk T o = true)
  (ho : o.op = .call { callee := .value f, args := args, argTypes := tys }) (h : evCallP E P T st g f (tys.toList.zip args.toList) k) : Yld E P st o g k := by
 unfold evCallP at h
 obtain ⟨fid, as0, h, hcall0⟩ := calleeE_ok (E := E) (P := P) hl hc ho h
 obtain ⟨as, ⟨hp, h⟩, has, hun⟩ := uncs_ok h
 obtain ⟨r, own, hfn, hk⟩ := h
 obtain ⟨hown, hk⟩ := hk
 refine ⟨r, none, _, hk, fun hg => ⟨by simp, fun l _ => by cases l <;> trivial, fun B G w a hgd hN K Q hK => ?_⟩⟩
 obtain ⟨vals, hexec, hlen, hrep0⟩ := hcall0 hg B G w a hgd (fun l hm => hN l (by rw [zip_flat hl]; exact hm))
 have hlen : vals.length = as.length := by rw [hlen, has]
 have hrep : ∀ (i : Nat) (v : Value) (c : AV), vals[i]? = some v → as[i]? = some c → Rep G.F w G.ι v c := fun i v c hv hc => hun hg _ _ _ i v c hc fun c0 hc0 => hrep0 i v c0 hv hc0
 rcases hfn hg with hfn | ⟨_, hfn⟩
 rotate_left
 ·obtain ⟨v, h1, h2⟩ := hfn w vals hlen ⟨G.F, pure_args hp hrep⟩
  unfold Oper.wp
  rw [hexec, h1]
  exact hK G w v hgd (.refl _ _) ⟨(h2 G.F).mono (fun _ _ h => h) (fun _ _ _ => rfl) _ (fun _ _ h => by cases h), trivial⟩ (by simp)
 obtain ⟨hb, hfn⟩ := hfn
 unfold Oper.wp
 rw [hexec, run_call hb]
 refine (hfn G.F w vals (goodW hgd) hlen (pure_args hp hrep)).mono ?_
 rintro e w' ⟨v, F', rfl, hbel, h1, h2, h3, _⟩
 obtain ⟨g1, g2⟩ := below_good hgd hbel h1 h2
 exact hK _ w' v g1 g2 ⟨h3.mono (fun _ _ h => h) (fun _ _ _ => rfl) _ (fun _ _ h => by cases h), trivial⟩ (by simp)
inductive CallH (E : Env) (P : Program) (st : St) (f : FuncId) (args : List AV) (N0 : List Loc) (k : KH) : Prop
 | data (r : AV) (own : Bool) (hp : args.all AV.puD = true) (h : FnR E P f args r own) (hk : match own with
  | false => k r none st.H st.k N0 []
  | true => k r (some st.k.length) st.H (st.k ++ [1]) (N0 ++ [.tok st.k.length]) [.tok st.k.length]) : CallH E P st f args N0 k
 | objs (ids tks : List Nat) (r : AV) (tag : Option Nat) (H' : List AObj) (k' : List Nat) (h : FnW E P f args (maskH ids 0 st.H) (maskK tks 0 st.k) r tag H' k')
  (hk : k r tag (mergeH st.H (maskH ids 0 st.H) H') (mergeK st.k (maskK tks 0 st.k) k') (N0 ++ wLocs (maskH ids 0 st.H) (maskK tks 0 st.k) (k'.length - (maskK tks 0 st.k).length)) (wLocs (maskH ids 0 st.H) (maskK tks 0 st.k) (k'.length - (maskK tks 0 st.k).length))) : CallH E P st f args N0 k
def evCallH (E : Env) (P : Program) (T : Tab) (st : St) (f : Operand) (args : List (TypeId × Operand)) (k : KH) : Prop :=
 match evV T st 0 f with
 | .fn fid a b => uncsN true (a.length + args.length) (a ++ args.map (fun x => evV T st x.1 x.2) ++ b) fun as => CallH E P st fid as (opN f ++ args.flatMap fun x => opN x.2) k
 | _ => False
theorem maskH_len (ids : List Nat) : ∀ (l : List AObj) (i : Nat), (maskH ids i l).length = l.length
 | [], _ => rfl
 | _ :: l, i => by simp only [maskH, List.length_cons, maskH_len ids l]
theorem maskK_len (ids : List Nat) : ∀ (l : List Nat) (i : Nat), (maskK ids i l).length = l.length
 | [], _ => rfl
 | _ :: l, i => by simp only [maskK, List.length_cons, maskK_len ids l]
theorem maskH_get (ids : List Nat) : ∀ (l : List AObj) (i j : Nat) (x : AObj), x ≠ .dead → (maskH ids i l)[j]? = some x → l[j]? = some x
 | [], _, j, _, _, h => by simp [maskH] at h
 | x :: l, i, j, y, hy, h => by
  cases j with
  | zero =>
   simp only [maskH, List.getElem?_cons_zero, Option.some.injEq] at h ⊢
   cases hb : ids.contains i with
   | true => rw [hb] at h; exact h
   | false => rw [hb] at h; exact absurd h.symm hy
  | succ j => simp only [maskH, List.getElem?_cons_succ] at h ⊢; exact maskH_get ids l _ j y hy h
theorem maskK_get (ids : List Nat) : ∀ (l : List Nat) (i j n : Nat), (maskK ids i l)[j]? = some (n + 1) → l[j]? = some (n + 1)
 | [], _, j, _, h => by simp [maskK] at h
 | x :: l, i, j, n, h => by
  cases j with
  | zero =>
   simp only [maskK, List.getElem?_cons_zero, Option.some.injEq] at h ⊢
   cases hb : ids.contains i with
   | true => rw [hb] at h; exact h
   | false => rw [hb] at h; cases h
  | succ j => simp only [maskK, List.getElem?_cons_succ] at h ⊢; exact maskK_get ids l _ j n h
theorem aliveO_mem {l : Loc} : ∀ {H : List AObj} {i : Nat}, l ∈ aliveO i H ↔ ∃ j x, l = .obj (i + j) ∧ H[j]? = some x ∧ x ≠ .dead
 | [], i => by simp [aliveO]
 | x0 :: H, i => by
  have step : ∀ {p : Prop}, (p ↔ l = .obj i ∧ x0 ≠ .dead) → ((p ∨ l ∈ aliveO (i + 1) H) ↔ ∃ j x, l = .obj (i + j) ∧ (x0 :: H)[j]? = some x ∧ x ≠ .dead) := by
   intro p hp
   rw [hp, aliveO_mem (H := H)]
   constructor
   ·rintro (⟨rfl, h⟩ | ⟨j, x, rfl, h⟩)
    ·exact ⟨0, x0, rfl, rfl, h⟩
    ·exact ⟨j + 1, x, by rw [Nat.add_assoc, Nat.add_comm 1 j], by simpa using h⟩
   ·rintro ⟨j, x, rfl, h, hx⟩
    cases j with
    | zero => simp only [List.getElem?_cons_zero, Option.some.injEq] at h; subst h; exact .inl ⟨rfl, hx⟩
    | succ j => exact .inr ⟨j, x, by rw [Nat.add_assoc, Nat.add_comm 1 j], by simpa using h, hx⟩
  cases x0 with
  | dead => rw [← step (p := False) (by simp), aliveO]; simp
  | cells t cs tg => rw [← step (p := l = .obj i) (by simp), aliveO, List.mem_cons]
  | mp es => rw [← step (p := l = .obj i) (by simp), aliveO, List.mem_cons]
theorem aliveT_mem {l : Loc} : ∀ {k : List Nat} {i : Nat}, l ∈ aliveT i k ↔ ∃ j n, l = .tok (i + j) ∧ k[j]? = some (n + 1)
 | [], i => by simp [aliveT]
 | 0 :: H, i => by
  rw [aliveT, aliveT_mem (k := H)]
  constructor
  ·rintro ⟨j, n, rfl, h⟩; exact ⟨j + 1, n, by rw [Nat.add_assoc, Nat.add_comm 1 j], by simpa using h⟩
  ·rintro ⟨j, n, rfl, h⟩
   cases j with
   | zero => simp at h
   | succ j => exact ⟨j, n, by rw [Nat.add_assoc, Nat.add_comm 1 j], by simpa using h⟩
 | (n0 + 1) :: H, i => by
  rw [show aliveT i ((n0 + 1) :: H) = .tok i :: aliveT (i + 1) H from rfl, List.mem_cons, aliveT_mem (k := H)]
  constructor
  ·rintro (rfl | ⟨j, n, rfl, h⟩)
   ·exact ⟨0, n0, rfl, rfl⟩
   ·exact ⟨j + 1, n, by rw [Nat.add_assoc, Nat.add_comm 1 j], by simpa using h⟩
  ·rintro ⟨j, n, rfl, h⟩
   cases j with
   | zero => exact .inl rfl
   | succ j => exact .inr ⟨j, n, by rw [Nat.add_assoc, Nat.add_comm 1 j], by simpa using h⟩
theorem newT_mem {l : Loc} : ∀ {n i : Nat}, l ∈ newT i n ↔ ∃ j, l = .tok j ∧ i ≤ j ∧ j < i + n
 | 0, i => by simp only [newT, List.not_mem_nil, false_iff]; rintro ⟨j, _, h1, h2⟩; omega
 | n + 1, i => by
  rw [newT, List.mem_cons, newT_mem (n := n)]
  constructor
  ·rintro (rfl | ⟨j, rfl, h1, h2⟩)
   ·exact ⟨i, rfl, by omega, by omega⟩
   ·exact ⟨j, rfl, by omega, by omega⟩
  ·rintro ⟨j, rfl, h1, h2⟩
   by_cases hj : j = i
   ·subst hj; exact .inl rfl
   ·exact .inr ⟨j, rfl, by omega, by omega⟩
theorem wLocs_obj {H : List AObj} {k : List Nat} {n i : Nat} : .obj i ∈ wLocs H k n ↔ ∃ x, H[i]? = some x ∧ x ≠ .dead := by
 unfold wLocs
 rw [List.mem_append, List.mem_append, aliveO_mem, aliveT_mem, newT_mem]
 constructor
 ·rintro (⟨j, x, h1, h2⟩ | ⟨j, n, h1, _⟩ | ⟨j, h1, _⟩)
  ·injection h1 with h1; rw [Nat.zero_add] at h1; subst h1; exact ⟨x, h2⟩
  ·cases h1
  ·cases h1
 ·rintro ⟨x, h⟩; exact .inl ⟨i, x, by rw [Nat.zero_add], h⟩
theorem wLocs_tok {H : List AObj} {k : List Nat} {n i : Nat} : .tok i ∈ wLocs H k n ↔ (∃ m, k[i]? = some (m + 1)) ∨ (k.length ≤ i ∧ i < k.length + n) := by
 unfold wLocs
 rw [List.mem_append, List.mem_append, aliveO_mem, aliveT_mem, newT_mem]
 constructor
 ·rintro (⟨j, x, h1, h2⟩ | ⟨j, n, h1, h2⟩ | ⟨j, h1, h2, h3⟩)
  ·cases h1
  ·injection h1 with h1; rw [Nat.zero_add] at h1; subst h1; exact .inl ⟨n, h2⟩
  ·injection h1 with h1; subst h1; exact .inr ⟨h2, h3⟩
 ·rintro (⟨m, h⟩ | ⟨h1, h2⟩)
  ·exact .inr (.inl ⟨i, m, by rw [Nat.zero_add], h⟩)
  ·exact .inr (.inr ⟨i, rfl, h1, h2⟩)
theorem wLocs_slot {H : List AObj} {k : List Nat} {n t : Nat} : .slot t ∉ wLocs H k n := by
 unfold wLocs
 rw [List.mem_append, List.mem_append, aliveO_mem, aliveT_mem, newT_mem]
 rintro (⟨j, x, h1, h2⟩ | ⟨j, n, h1, _⟩ | ⟨j, h1, _⟩) <;> cases h1
theorem mergeH_alive : ∀ {l m n : List AObj} {i : Nat} {x : AObj}, m.length = l.length → n.length = l.length → x ≠ .dead → m[i]? = some x → (mergeH l m n)[i]? = n[i]?
 | [], [], _, i, _, _, _, _, h => by simp at h
 | x :: l, y :: m, z :: n, i, x0, h1, h2, hx, h => by
  have h1' : m.length = l.length := by simpa using h1
  have h2' : n.length = l.length := by simpa using h2
  cases y with
  | dead =>
   cases i with
   | zero => simp only [List.getElem?_cons_zero, Option.some.injEq] at h; exact absurd h.symm hx
   | succ i => simp only [mergeH, List.getElem?_cons_succ] at h ⊢; exact mergeH_alive h1' h2' hx h
  | cells t' cs' tg' =>
   cases i with
   | zero => simp [mergeH]
   | succ i => simp only [mergeH, List.getElem?_cons_succ] at h ⊢; exact mergeH_alive h1' h2' hx h
  | mp es' =>
   cases i with
   | zero => simp [mergeH]
   | succ i => simp only [mergeH, List.getElem?_cons_succ] at h ⊢; exact mergeH_alive h1' h2' hx h
 | [], _ :: _, _, _, _, h1, _, _, _ => by simp at h1
 | _ :: _, [], _, _, _, h1, _, _, _ => by simp at h1
 | _ :: _, _ :: _, [], _, _, _, h2, _, _ => by simp at h2
theorem mergeH_dead : ∀ {l m n : List AObj} {i : Nat}, m.length = l.length → n.length = l.length → (∀ x, x ≠ .dead → m[i]? ≠ some x) → (mergeH l m n)[i]? = l[i]?
 | [], [], _, i, _, _, _ => by simp [mergeH]
 | x :: l, y :: m, z :: n, i, h1, h2, h => by
  have h1' : m.length = l.length := by simpa using h1
  have h2' : n.length = l.length := by simpa using h2
  cases y with
  | dead =>
   cases i with
   | zero => simp [mergeH]
   | succ i => simp only [mergeH, List.getElem?_cons_succ] at h ⊢; exact mergeH_dead h1' h2' h
  | cells t' cs' tg' =>
   cases i with
   | zero => exact absurd rfl (h _ (by simp))
   | succ i => simp only [mergeH, List.getElem?_cons_succ] at h ⊢; exact mergeH_dead h1' h2' h
  | mp es' =>
   cases i with
   | zero => exact absurd rfl (h _ (by simp))
   | succ i => simp only [mergeH, List.getElem?_cons_succ] at h ⊢; exact mergeH_dead h1' h2' h
 | [], _ :: _, _, _, h1, _, _ => by simp at h1
 | _ :: _, [], _, _, h1, _, _ => by simp at h1
 | _ :: _, _ :: _, [], _, _, h2, _ => by simp at h2
theorem mergeK_alive : ∀ {l m n : List Nat} {i : Nat}, m.length = l.length → l.length ≤ n.length → ((∃ x, m[i]? = some (x + 1)) ∨ l.length ≤ i) → (mergeK l m n)[i]? = n[i]?
 | [], [], _, i, _, _, _ => by simp [mergeK]
 | x :: l, 0 :: m, z :: n, i, h1, h2, h => by
  have h1' : m.length = l.length := by simpa using h1
  have h2' : l.length ≤ n.length := by simpa using h2
  cases i with
  | zero => simp at h
  | succ i => simp only [mergeK, List.getElem?_cons_succ, List.length_cons, Nat.add_le_add_iff_right] at h ⊢; exact mergeK_alive h1' h2' h
 | x :: l, (y + 1) :: m, z :: n, i, h1, h2, h => by
  have h1' : m.length = l.length := by simpa using h1
  have h2' : l.length ≤ n.length := by simpa using h2
  cases i with
  | zero => simp [mergeK]
  | succ i => simp only [mergeK, List.getElem?_cons_succ, List.length_cons, Nat.add_le_add_iff_right] at h ⊢; exact mergeK_alive h1' h2' h
 | [], _ :: _, _, _, h1, _, _ => by simp at h1
 | _ :: _, [], _, _, h1, _, _ => by simp at h1
 | _ :: _, _ :: _, [], _, _, h2, _ => by simp at h2
theorem mergeK_dead : ∀ {l m n : List Nat} {i : Nat}, m.length = l.length → l.length ≤ n.length → (∀ x, m[i]? ≠ some (x + 1)) → (i < l.length ∨ n.length ≤ i) → (mergeK l m n)[i]? = l[i]?
 | [], [], n, i, _, _, _, h => by
  rcases h with h | h
  ·simp at h
  ·simp [mergeK, List.getElem?_eq_none h]
 | x :: l, 0 :: m, z :: n, i, h1, h2, h, hi => by
  have h1' : m.length = l.length := by simpa using h1
  have h2' : l.length ≤ n.length := by simpa using h2
  cases i with
  | zero => simp [mergeK]
  | succ i => simp only [mergeK, List.getElem?_cons_succ, List.length_cons, Nat.add_le_add_iff_right, Nat.add_lt_add_iff_right] at h hi ⊢; exact mergeK_dead h1' h2' h hi
 | x :: l, (y + 1) :: m, z :: n, i, h1, h2, h, hi => by
  have h1' : m.length = l.length := by simpa using h1
  have h2' : l.length ≤ n.length := by simpa using h2
  cases i with
  | zero => exact absurd rfl (h y)
  | succ i => simp only [mergeK, List.getElem?_cons_succ, List.length_cons, Nat.add_le_add_iff_right, Nat.add_lt_add_iff_right] at h hi ⊢; exact mergeK_dead h1' h2' h hi
 | [], _ :: _, _, _, h1, _, _, _ => by simp at h1
 | _ :: _, [], _, _, h1, _, _, _ => by simp at h1
 | _ :: _, _ :: _, [], _, _, h2, _, _ => by simp at h2
theorem evCallH_ok {k : KH} {f : Operand} {args : Array Operand} {tys : Array TypeId} (hl : tys.toList.length = args.toList.length) (hc : constOk T o = true)
  (ho : o.op = .call { callee := .value f, args := args, argTypes := tys }) (h : evCallH E P T st f (tys.toList.zip args.toList) k) : YldH E P st o k := by
 have h' : calleeE T st true f (tys.toList.zip args.toList) fun fid as0 => ∃ n, uncsN true n as0 fun as => CallH E P st fid as (opN f ++ (tys.toList.zip args.toList).flatMap fun x => opN x.2) k := by
  unfold calleeE
  unfold evCallH at h
  split at h
  ·rename_i fid fa fb hfe
   rw [hfe]
   exact ⟨_, h⟩
  ·exact h.elim
 obtain ⟨fid, as0, ⟨n, h⟩, hcall0⟩ := calleeE_ok (E := E) (P := P) hl hc ho h'
 obtain ⟨as, h, has, hun⟩ := uncsN_ok h
 have hcall : ∀ (B : Base) (G : Gh) (w : World) (a : Act), Good E B G w → (∀ l, l ∈ opN f ++ args.toList.flatMap opN → RepL G w a l st) →
   ∃ vals : List Value, (execOp a.eval o).run P w = (callFunc fid vals.toArray).run P w ∧ vals.length = as.length ∧ ∀ (i : Nat) (v : Value) (c : AV), vals[i]? = some v → as[i]? = some c → Rep G.F w G.ι v c := fun B G w a hgd hN => by
  obtain ⟨vals, h1, h2, h3⟩ := hcall0 rfl B G w a hgd hN
  exact ⟨vals, h1, h2.trans has.symm, fun i v c hv hc => hun rfl _ _ _ i v c hc fun c0 hc0 => h3 i v c0 hv hc0⟩
 cases h with
 | objs ids tks r tag H' k' hfn hk =>
  have lH : (maskH ids 0 st.H).length = st.H.length := maskH_len ..
  have lK : (maskK tks 0 st.k).length = st.k.length := maskK_len ..
  have lH' : H'.length = st.H.length := hfn.lenH.trans lH
  have lK' : st.k.length ≤ k'.length := by have := hfn.lenk; omega
  refine ⟨_, _, _, _, _, _, hk, ⟨fun t => wLocs_slot, fun l hl' => ?_, fun B G w a hgd hN K Q hK => ?_⟩⟩
  ·cases l with
   | slot => trivial
   | obj i =>
    rw [wLocs_obj] at hl'
    exact (mergeH_dead lH lH' fun x hx h => hl' ⟨x, h, hx⟩).symm
   | tok i =>
    rw [wLocs_tok] at hl'
    refine (mergeK_dead lK lK' (fun x h => hl' (.inl ⟨x, h⟩)) ?_).symm
    rcases Nat.lt_or_ge i st.k.length with hh | hh
    ·exact .inl hh
    ·exact .inr (by
      rcases Nat.lt_or_ge i k'.length with h3 | h3
      ·exact absurd (.inr ⟨by omega, by omega⟩) hl'
      ·exact h3)
  ·obtain ⟨vals, hexec, hlen, hrep⟩ := hcall B G w a hgd (fun l hm => hN l (by rw [zip_flat hl]; exact List.mem_append_left _ hm))
   unfold Oper.wp
   rw [hexec, run_call hfn.bodied]
   refine (hfn.run B G w vals hgd (fun l hl' => ?_) hlen hrep).mono ?_
   ·have h0 := hN l (List.mem_append_right _ hl')
    cases l with
    | slot => trivial
    | obj i =>
     obtain ⟨x, h1, hx⟩ := wLocs_obj.1 hl'
     simp only [RepL, maskH_get ids _ _ _ _ hx h1] at h0
     simp only [RepH, h1]; exact h0
    | tok i =>
     rcases wLocs_tok.1 hl' with ⟨m, h1⟩ | ⟨h1, h2⟩
     ·simp only [RepL, maskK_get tks _ _ _ _ h1] at h0
      simp only [RepH, h1]; exact h0
     ·simp only [RepL, List.getElem?_eq_none (show st.k.length ≤ i by omega)] at h0
      simp only [RepH, List.getElem?_eq_none h1]; exact h0
   ·rintro e w' ⟨v, G', rfl, g1, g2, g3, g4⟩
    refine hK G' w' v g1 g2 g3 fun l hl' => ?_
    have h0 := g4 l hl'
    cases l with
    | slot => trivial
    | obj i =>
     obtain ⟨x, h1, hx⟩ := wLocs_obj.1 hl'
     simp only [RepH] at h0 ⊢
     rw [mergeH_alive lH lH' hx h1]; exact h0
    | tok i =>
     simp only [RepH] at h0 ⊢
     rw [mergeK_alive lK lK' ((wLocs_tok.1 hl').imp id fun h => by omega)]; exact h0
 | data r own hp hfn hk =>
 rcases hfn with hfn | ⟨ho', hfn⟩
 rotate_left
 ·subst ho'
  refine ⟨_, _, _, _, _, _, hk, ⟨by simp, fun l _ => by cases l <;> trivial, fun B G w a hgd hN K Q hK => ?_⟩⟩
  obtain ⟨vals, hexec, hlen, hrep⟩ := hcall B G w a hgd (fun l hm => hN l (by rw [zip_flat hl]; exact hm))
  obtain ⟨v, h1, h2⟩ := hfn w vals hlen ⟨G.F, pure_args hp hrep⟩
  unfold Oper.wp
  rw [hexec, h1]
  exact hK G w v hgd (.refl _ _) ⟨(h2 G.F).mono (fun _ _ h => h) (fun _ _ _ => rfl) _ (fun _ _ h => by cases h), trivial⟩ (by simp)
 obtain ⟨hb, hfn⟩ := hfn
 cases own with
 | false =>
  refine ⟨_, _, _, _, _, _, hk, ⟨by simp, fun l _ => by cases l <;> trivial, fun B G w a hgd hN K Q hK => ?_⟩⟩
  obtain ⟨vals, hexec, hlen, hrep⟩ := hcall B G w a hgd (fun l hm => hN l (by rw [zip_flat hl]; exact hm))
  unfold Oper.wp
  rw [hexec, run_call hb]
  refine (hfn G.F w vals (goodW hgd) hlen (pure_args hp hrep)).mono ?_
  rintro e w' ⟨v, F', rfl, hbel, h1, h2, h3, _⟩
  obtain ⟨g1, g2⟩ := below_good hgd hbel h1 h2
  exact hK _ w' v g1 g2 ⟨h3.mono (fun _ _ h => h) (fun _ _ _ => rfl) _ (fun _ _ h => by cases h), trivial⟩ (by simp)
 | true =>
  refine ⟨_, _, _, _, _, _, hk, ⟨by simp, fun l hl => ?_, fun B G w a hgd hN K Q hK => ?_⟩⟩
  ·cases l with
   | slot => trivial
   | obj i => rfl
   | tok i => exact app_same _ _ (fun e => hl (by simp [e]))
  obtain ⟨vals, hexec, hlen, hrep⟩ := hcall B G w a hgd (fun l hm => hN l (by rw [zip_flat hl]; exact List.mem_append_left _ hm))
  unfold Oper.wp
  rw [hexec, run_call hb]
  refine (hfn G.F w vals (goodW hgd) hlen (pure_args hp hrep)).mono ?_
  rintro e w' ⟨v, F', rfl, hbel, h1, h2, h3, h4⟩
  obtain ⟨g1, g2⟩ := below_good hgd hbel h1 h2
  obtain ⟨sz, xs, n, cap, g, lo, hi, ad, t1, t2, t3, t4, t5, t6⟩ := h4 rfl
  have hκ : G.κ st.k.length = none := by
   have := hN (.tok st.k.length) (by simp)
   simp only [RepL] at this
   rw [List.getElem?_eq_none (Nat.le_refl _)] at this
   exact this
  have hkn2 : ∀ j, j ≠ st.k.length → ∀ (r : Nat × Nat × Nat), setI G.κ st.k.length r j = G.κ j := fun j hj r => setI_other _ _ hj
  have hrep3 : Rep F' w' G.ι v r := h3.mono (fun _ _ h => h) (fun _ _ _ => rfl) _ (fun _ _ h => by cases h)
  have hlast : (st.k ++ [1])[st.k.length]? = some 1 := by rw [List.getElem?_append_right (Nat.le_refl _)]; simp
  rcases t6 with t6 | ⟨t6, ⟨o1, ta, tb, tc⟩, td, te, vals', t, fz, tf, tg, th⟩
  · -- no spare room
   have hx : Ext G w { G with F := F', κ := setI G.κ st.k.length (0, 0, 0) } w' := ⟨g2.ext.F, fun _ _ h => h, fun j r hj => by
    have : j ≠ st.k.length := fun e => by rw [e, hκ] at hj; cases hj
    show setI _ _ _ j = _
    rw [hkn2 j this]; exact hj, g2.ext.w⟩
   have hx2 : Ext { G with F := F' } w' { G with F := F', κ := setI G.κ st.k.length (0, 0, 0) } w' := ⟨fun _ _ h => h, fun _ _ h => h, hx.κ, fun _ _ _ => rfl⟩
   refine hK { G with F := F', κ := setI G.κ st.k.length (0, 0, 0) } w' v ⟨g1.fin, g1.own, g1.size, g1.old, g1.keep, g1.new, g1.os, g1.tape, g1.output, g1.glob, g1.gb, g1.ids, fun i r hi => ⟨(g1.toks i r hi).1, hx.κ _ _ (g1.toks i r hi).2⟩⟩ ⟨hx, fun j c _ hc => ?_, fun j c hj hc => ?_⟩ ⟨hrep3, ?_⟩ fun l hl => ?_
   ·exact (g2.obj j c (by simp) hc).keep hx2 (fun h => h) (fun g h => ⟨h, rfl, fun _ h => h⟩)
   ·refine (g2.tok j c (by simp) hc).keep hx2 (fun hn => ?_) (fun g h => ⟨h, rfl, fun _ h => h⟩)
    have : j ≠ st.k.length := fun e => hj (by simp [e])
    show setI _ _ _ j = _
    rw [hkn2 j this]; exact hn
   ·exact .inl ⟨sz, xs, n, cap, 0, 0, 0, ad, t1, t2, setI_same .., t3, t4, t5, .inl t6⟩
   ·simp only [List.mem_singleton] at hl
    subst hl
    simp only [RepH, hlast]
    exact ⟨0, 0, 0, setI_same .., fun h => absurd h (Nat.lt_irrefl _)⟩
  · -- its own spare room
   have hgn : ∀ i, G.O g ≠ some i := fun i hi => absurd (hgd.own g i hi).1 (by omega)
   have hglt : g < w'.heap.size := by
    rcases Nat.lt_or_ge g w'.heap.size with hh | hh
    ·exact hh
    ·rw [Array.getElem?_eq_none hh] at tf; cases tf
   let G1 : Gh := { F := F', ι := G.ι, κ := setI G.κ st.k.length (g, lo, hi), O := setI G.O g (.inr st.k.length) }
   have hx : Ext G w G1 w' := ⟨g2.ext.F, fun _ _ h => h, fun j r hj => by
    have : j ≠ st.k.length := fun e => by rw [e, hκ] at hj; cases hj
    show setI _ _ _ j = _
    rw [hkn2 j this]; exact hj, g2.ext.w⟩
   have hx2 : Ext { G with F := F' } w' G1 w' := ⟨fun _ _ h => h, fun _ _ h => h, hx.κ, fun _ _ _ => rfl⟩
   have hgg : ∀ g2 i, G.O g2 = some i → g2 ≠ g := fun g2 i hi e => hgn i (e ▸ hi)
   refine hK G1 w' v (hgd.step hbel.size (fun b hlt _ => hbel.block b hlt) g2.ext.w h1 (fun b o hb => ⟨(h2 b o hb).1, (h2 b o hb).2.elim .inl (fun h => .inr (.inl h))⟩) (fun b j hj => ?_) hbel.os hbel.tape hbel.output hx) ⟨hx, fun j c _ hc => ?_, fun j c hj hc => ?_⟩ ⟨hrep3, ?_⟩ fun l hl => ?_
   ·by_cases hbg : b = g
    ·subst hbg; exact ⟨hglt, .inl td⟩
    ·have hj' : G.O b = some j := by rw [← hj]; exact (setI_other _ _ hbg).symm
     exact ⟨by have := (hgd.own b j hj').1; have := hbel.size; omega, .inr (by rw [hj']; simp)⟩
   ·exact (g2.obj j c (by simp) hc).keep hx2 (fun h => h) (fun g3 h3' => ⟨by show setI _ _ _ g3 = _; rw [setI_other _ _ (hgg g3 _ h3')]; exact h3', rfl, fun _ h => h⟩)
   ·refine (g2.tok j c (by simp) hc).keep hx2 (fun hn => ?_) (fun g3 h3' => ⟨by show setI _ _ _ g3 = _; rw [setI_other _ _ (hgg g3 _ h3')]; exact h3', rfl, fun _ h => h⟩)
    have : j ≠ st.k.length := fun e => hj (by simp [e])
    show setI _ _ _ j = _
    rw [hkn2 j this]; exact hn
   ·exact .inl ⟨sz, xs, n, cap, g, lo, hi, ad, t1, t2, setI_same .., t3, t4, t5, .inr ⟨t6, o1, ta, tb, tc⟩⟩
   ·simp only [List.mem_singleton] at hl
    subst hl
    simp only [RepH, hlast]
    exact ⟨g, lo, hi, setI_same .., fun _ => ⟨setI_same .., te, vals', t, fz, tf, tg, th⟩⟩
end
end Go.Pm
