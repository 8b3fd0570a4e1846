/-
  Generic: the evaluator over operations and regions.
-/
import Derived.Test.YtommkfooolabhaaGreatDoorPm13
open _root_.Bool renaming and_eq_true -> yX
open _root_.Array renaming getElem?_toList -> yY
open _root_.List renaming getElem?_cons_succ -> yZ
namespace Go.Pm
open Go Go.RowKit
set_option linter.unusedVariables false
set_option linter.unusedSimpArgs false
structure Cx where
  E : Env
  P : Program
  T : Tab
  rows : List Nat
  nb : Nat := 0
  nk : Nat := 0
def pY (T : Tab) (src dst : TypeId) : Bool :=
  match T.at src, T.at dst with
  | some si, some di => match si.desc, di.desc with
    | .string, .slice _ => true
    | _, _ => false
  | _, _ => false
section
variable {E : Env} {P : Program} {T : Tab} {st : St} {o : Oper} {g : Bool}
def jB (T : Tab) (st : St) (g : Bool) (src dst : TypeId) (x : Operand) (k : AV -> Option Nat -> List Loc -> Prop) : Prop :=
  unc g (evV T st src x) fun a => match a, T.at src, T.at dst with
    | .str s, some si, some di => match si.desc, di.desc with
      | .string, .slice e => ((T.at e).any (fun ti => ti.desc matches .int .u8) = true /\ Nat.beq di.esz 1 = true) /\ k (.list 1 (s.map byteAV)) none (opN x)
      | _, _ => False
    | _, _, _ => False
theorem lA (hT : TOk P T) {src dst : TypeId} {x : Operand} {k : AV -> Option Nat -> List Loc -> Prop} (hc : aA T o = true) (ho : o.op = .convert src dst x) (h : jB T st g src dst x k) : Yld E P st o g k := by
  unfold jB at h
  obtain ⟨a', h, ha'⟩ := aK h
  split at h
  · rename_i s si di hsi hdi
    split at h
    · rename_i e h1 h2
      obtain ⟨⟨hb, _⟩, h⟩ := h
      refine ⟨_, none, _, h, fun hgg => ⟨by simp, fun l _ => by cases l <;> trivial, fun B G w a hg hN K Q hK => ?_⟩⟩
      have r1 := ha' hgg _ _ _ _ (aE (T := T) hg (aA.at hc (ty := src) (x := x) (by simp [opcs, ho])) hN).1
      have hv : a.eval x = .string ⟨s.toArray⟩ /\ s.length <= maxLen := by
        generalize a.eval x = v at *
        cases r1 with | str _ _ hl => exact ⟨rfl, hl⟩
      have hge := grownCap_ge w s.length 0 e
      have hle := grownCap_le_maxLen w s.length 0 e hv.2
      have hsize := c6 s (grownCap w s.length 0 e) hge
      have hgr := bK w (.cells (bytesRow ⟨s.toArray⟩ (grownCap w s.length 0 e)) e ((bytesRow ⟨s.toArray⟩ (grownCap w s.length 0 e)).size, (bytesRow ⟨s.toArray⟩ (grownCap w s.length 0 e)).size + 1))
      have hbel : Below w.heap.size w (w.drew.alloc (.cells (bytesRow ⟨s.toArray⟩ (grownCap w s.length 0 e)) e ((bytesRow ⟨s.toArray⟩ (grownCap w s.length 0 e)).size, (bytesRow ⟨s.toArray⟩ (grownCap w s.length 0 e)).size + 1))) :=
        ⟨rfl, rfl, rfl, by rw [hgr.size]; omega, fun b hb => hgr.old b hb⟩
      obtain ⟨g1, g2⟩ := bX hg (F' := fun b o => G.F b o ∨ (b = w.heap.size /\ o < s.length)) hbel (fun _ _ h => .inl h) (fun b o hb => by
        rw [hgr.size]
        rcases hb with hb | ⟨hb, _⟩
        · exact ⟨by have := hg.fin b o hb; omega, .inl hb⟩
        · exact ⟨by omega, .inr (by omega)⟩)
      unfold Oper.wp
      rw [eG hT ho hsi hdi h1 h2 hb a w hv.1]
      refine hK _ _ _ g1 g2 ⟨?_, trivial⟩ (by simp)
      refine Rep.list_of (by simp) hge hle (fun e he => by obtain ⟨b, _, rfl⟩ := List.mem_map.1 he; rfl) (fun j hj => .inr ⟨rfl, by simp at hj; omega⟩) fun i el j c hi hj => ?_
      have hi' : s[i]?.map byteAV = some el := by simpa using hi
      cases hs : s[i]? with
      | none => rw [hs] at hi'; cases hi'
      | some b =>
        rw [hs] at hi'
        simp only [Option.map_some, Option.some.injEq] at hi'
        subst hi'
        cases j with
        | zero =>
          simp only [byteAV, AV.cells, List.getElem?_cons_zero, Option.some.injEq] at hj
          subst hj
          refine ⟨_, ?_, rfl, .int _ _ _ (hM b)⟩
          rw [cS hgr.new, Nat.mul_one, Nat.add_zero, Nat.zero_add]
          exact dM s _ hge i b hs
        | succ j => simp [byteAV, AV.cells] at hj
    · exact h.elim
  · exact h.elim
end
def qT (T : Tab) (o : Oper) : Bool :=
  match o.op with
  | .move (.const (.slice none 0 0)) | .assign (.const (.slice none 0 0)) => false
  | .move _ | .assign _ | .pick .. | .binOp .. | .unOp .. | .load .. | .fieldAddr .. | .field .. | .indexAddr .. | .index .. | .lookup .. | .extract .. | .makeInterface .. | .makeFunc .. | .nilCheck _ | .build .. => true
  | .convert src dst _ => !pY T src dst || o.guard.isSome
  | .slice _ _ _ _ mx => mx.isNone
  | .call { callee := .builtin .len, .. } | .call { callee := .builtin .min, .. } | .call { callee := .builtin .max, .. } => true
  | .call { callee := .value _, .. } => o.guard.isSome
  | _ => false
def sS (T : Tab) (t : TypeId) : Bool := match T.at t with | some ti => (match ti.desc with | .string => true | _ => false) | none => false
def sT (T : Tab) (t : TypeId) : Bool := match T.at t with | some ti => (match ti.desc with | .map _ _ => true | _ => false) | none => false
def evP (C : Cx) (st : St) (g : Bool) (o : Oper) (k : AV -> Option Nat -> List Loc -> Prop) : Prop :=
  match o.op with
  | .move x | .assign x => o8 C.T st g o.type x k
  | .pick c x y => o9 C.T st g o.type c x y k
  | .binOp op t x y _ => rW C.T st g op t x y k
  | .unOp op t x => evUn C.T st g op t x k
  | .load t x => pF C.T st g t x k
  | .fieldAddr t x n => eQ C.T st g t x n k
  | .field t x n => lO C.T st g t x n k
  | .indexAddr t x i => eR C.T st g t x i k
  | .index t x i => lP C.T st g t x i k
  | .lookup t m i ok => i9 C.T st g t m i ok k
  | .extract x n => hP C.T st g x n k
  | .makeInterface t x => eS C.T st t x k
  | .makeFunc fn a b => fO C.T st fn a.toList b.toList k
  | .nilCheck x => fP C.T st g x k
  | .build t ps => lR C.T st g t ps.toList k
  | .convert src dst x => match pY C.T src dst with
    | true => jB C.T st g src dst x k
    | false => match sR C.T src && sS C.T dst with
      | true => oC C.T st g src dst x k
      | false => pC C.T st g src dst x k
  | .slice t x lo hi none => lN C.T st g t x lo hi k
  | .call { callee := .builtin .len, args := ⟨[x]⟩, argTypes := ⟨[t]⟩ } => match sT C.T t with
    | false => rZ C.T st g t x k
    | true => n8 C.T st g t x k
  | .call { callee := .builtin .min, args := ⟨[x, y]⟩, argTypes := ⟨[tx, ty]⟩ } => f5 C.T st g false tx ty x y k
  | .call { callee := .builtin .max, args := ⟨[x, y]⟩, argTypes := ⟨[tx, ty]⟩ } => f5 C.T st g true tx ty x y k
  | .call { callee := .value f, args := args, argTypes := tys } => k8 C.E C.P C.T st g f (tys.toList.zip args.toList) k
  | _ => False
def evH (C : Cx) (st : St) (o : Oper) (k : KH) : Prop :=
  match o.op with
  | .move (.const (.slice none 0 0)) | .assign (.const (.slice none 0 0)) => match C.rows.contains (o.dst.getD 0) with
    | true => i8 C.T st o.type k
    | false => rH C.T st o.type k
  | .alloc t => match C.rows.contains (o.dst.getD 0) with
    | true => jA C.T st t k
    | false => kL C.T st t k
  | .box t x => rG C.T st t x k
  | .makeMap _ none => gE st k
  | .range t x => kX C.T st t x k
  | .next x true => oA C.T st x k
  | .insert t m i x => fW C.T st t m i x k
  | .mapUpdate t m i x => fW C.T st t m i x k
  | .buildSlice t n ps => dL C.T st t n ps.toList k
  | .convert src dst x => match C.rows.contains (o.dst.getD 0) with
    | true => fD C.T st src dst x k
    | false => kM C.T st src dst x k
  | .store t a v => match C.rows.contains (o.dst.getD 999999) with
    | true => iX C.T st t a v k
    | false => kN C.T st t a v k
  | .slice t x lo (some hi) (some mx) => match C.rows.contains (o.dst.getD 0) with
    | true => kS C.T st t x lo hi mx k
    | false => nW C.T st t x lo hi mx k
  | .slice t x lo hi none => iZ C.T st t x lo hi k
  | .call { callee := .builtin .clear, args := ⟨[x]⟩, argTypes := ⟨[t]⟩ } => kT C.T st t x k
  | .call { callee := .builtin .append, args := ⟨[s, x]⟩, argTypes := ⟨[ts, tx]⟩ } => match C.rows.contains (o.dst.getD 0) with
    | true => match evV C.T st ts s with
      | .rowR .. => dO C.T st ts tx s x k
      | .row .. => dP C.T st ts tx s x k
      | _ => eI C.T st ts tx s x k
    | false => iY C.T st ts tx s x k
  | .call { callee := .value f, args := args, argTypes := tys } => k9 C.E C.P C.T st f (tys.toList.zip args.toList) k
  | _ => False
def opOk (T : Tab) (o : Oper) : Bool := aA T o && (match o.op with | .call c => Nat.beq c.argTypes.toList.length c.args.toList.length | _ => true)
theorem qU {C : Cx} (hT : TOk C.P C.T) {st : St} {g : Bool} {o : Oper} {k : AV -> Option Nat -> List Loc -> Prop} (hok : opOk C.T o = true) (h : evP C st g o k) : Yld C.E C.P st o g k := by
  simp only [opOk, yX] at hok
  obtain ⟨hc, hl⟩ := hok
  unfold evP at h
  split at h
  · rename_i x ho; exact kD hc (.inl ho) h
  · rename_i x ho; exact kD hc (.inr ho) h
  · rename_i ho; exact pA hc ho h
  · rename_i ho; exact qG hT hc ho h
  · rename_i ho; exact rX hc ho h
  · rename_i ho; exact pG hT hc ho h
  · rename_i ho; exact iE hT hc ho h
  · rename_i ho; exact nH hT hc ho h
  · rename_i ho; exact iF hT hc ho h
  · rename_i ho; exact nI hT hc ho h
  · rename_i ho; exact kW hT hc ho h
  · rename_i ho; exact kG hc ho h
  · rename_i ho; exact iG hT hc ho h
  · rename_i ho; exact jG hc ho h
  · rename_i ho; exact jH hc ho h
  · rename_i ho; exact nJ hT hc ho h
  · rename_i ho
    split at h
    · exact lA hT hc ho h
    · split at h
      · exact oD hT hc ho h
      · exact pD hT hc ho h
  · rename_i ho; exact nG hT hc ho h
  · rename_i ho
    split at h
    · exact qH hT hc ho h
    · exact n9 hT hc ho h
  · rename_i ho; exact hG (mx := false) hc ho h
  · rename_i ho; exact hG (mx := true) hc ho h
  · rename_i ho
    rw [ho] at hl
    exact mY (Nat.eq_of_beq_eq_true hl) hc ho h
  · exact h.elim
theorem qV {C : Cx} (hT : TOk C.P C.T) {st : St} {o : Oper} {k : KH} (hok : opOk C.T o = true) (h : evH C st o k) : YldH C.E C.P st o k := by
  simp only [opOk, yX] at hok
  obtain ⟨hc, hl⟩ := hok
  unfold evH at h
  split at h
  · rename_i ho
    split at h
    · exact gC (.inl ho) h
    · exact l0 (.inl ho) h
  · rename_i ho
    split at h
    · exact gC (.inr ho) h
    · exact l0 (.inr ho) h
  · rename_i ho
    split at h
    · exact kY hT ho h
    · exact mO hT ho h
  · rename_i ho; exact pT hc ho h
  · rename_i ho; exact jS ho h
  · rename_i ho; exact mW hT hc ho h
  · rename_i ho; exact oB (ty := 0) hc ho h
  · rename_i ho; exact gF hT hc (.inl ho) h
  · rename_i ho; exact gF hT hc (.inr ho) h
  · rename_i ho; exact gA hT hc ho h
  · rename_i ho
    split at h
    · exact iW hT hc ho h
    · exact mQ hT hc ho h
  · rename_i ho
    split at h
    · exact kO hT hc ho h
    · exact mS hT hc ho h
  · rename_i ho
    split at h
    · exact mT hT hc ho h
    · exact nX hT hc ho h
  · rename_i ho; exact kR hT hc ho h
  · rename_i ho; exact mU hT hc ho h
  · rename_i ho
    split at h
    · split at h
      · exact gB hT hc ho h
      · exact gD hT hc ho h
      · exact iB hT hc ho h
    · exact kQ hT hc ho h
  · rename_i ho
    rw [ho] at hl
    exact mZ (Nat.eq_of_beq_eq_true hl) hc ho h
  · exact h.elim
inductive NormE (r : AV) (K : AV -> Prop) : Prop
  | same (h : K r)
  | to (r' : AV) (he : Wf r -> r = r') (h : K r')
def oH (b : Bool) (r : AV) (K : AV -> Prop) : Prop :=
  match b with
  | true => NormE r K
  | false => K r
theorem fY {b : Bool} {r : AV} {K : AV -> Prop} (h : oH b r K) : ∃ r', K r' /\ (Wf r -> r = r') := by
  cases b with
  | false => exact ⟨r, h, fun _ => rfl⟩
  | true =>
    cases h with
    | same h => exact ⟨r, h, fun _ => rfl⟩
    | to r' he h => exact ⟨r', h, he⟩
def l4 (T : Tab) (o : Oper) : Bool :=
  match o.op with
  | .slice .. | .buildSlice .. => true
  | .call { callee := .builtin .len, .. } | .call { callee := .builtin .append, .. } => true
  | .binOp .add t _ _ _ => (match T.at t with | some ti => (match ti.desc with | .string => true | _ => false) | none => false)
  | .load t _ => (match T.at t with | some ti => dW ti.desc | none => false)
  | _ => false
theorem bY.norm {E : Env} {P : Program} {st : St} {o : Oper} {r r' : AV} {tag : Option Nat} {H : List AObj} {k : List Nat} {N W : List Loc} (h : bY E P st o r tag H k N W) (he : Wf r -> r = r') : bY E P st o r' tag H k N W :=
  ⟨h.noslot, h.same, fun B G w a hg hN K Q hK => h.run B G w a hg hN K Q fun G' w' v h1 h2 h3 h4 => hK G' w' v h1 h2 (by have := he h3.1.wf; rw [<- this]; exact h3) h4⟩
def sU (o : Oper) : Bool :=
  match o.op with
  | .call { callee := .value _, .. } => true
  | _ => false
def sV (o : Oper) : Bool :=
  match o.op with
  | .slice .. => true
  | _ => false
def evOp (C : Cx) (ops : Array Oper) (o : Oper) (st : St) (K : St -> List Loc -> List Loc -> Prop) : Prop :=
  match o.guard with
  | none => match qT C.T o && !(sV o && C.rows.contains (o.dst.getD 0)) with
    | true => evP C st true o fun r tag N => oH (l4 C.T o) r fun r => K (st.put o.dst r tag st.H st.k) N (dstW o.dst ++ [])
    | false => evH C st o fun r tag H k N W => oH (l4 C.T o) r fun r => K (st.put o.dst r tag H k) N (dstW o.dst ++ W)
  | some _ => oZ ops o st fun g => match qT C.T o && !(sU o && C.rows.contains (o.dst.getD 0)) with
    | true => evP C st g o fun r _ N => oH (l4 C.T o) r fun r => K (st.put o.dst (.cond g r) none st.H st.k) (cK ops o ++ N) (dstW o.dst ++ [])
    | false => (g = true -> evH C st o fun r tag H k N W => oH (l4 C.T o) r fun r => K (st.put o.dst r tag H k) (cK ops o ++ N) (dstW o.dst ++ W)) /\
        (g = false -> ∃ a, K (st.put o.dst (.cond false a) none st.H st.k) (cK ops o) (dstW o.dst ++ []))
theorem jC {C : Cx} (hT : TOk C.P C.T) {ops : Array Oper} {st : St} {o : Oper} {K : St -> List Loc -> List Loc -> Prop} (hok : opOk C.T o = true) (h : evOp C ops o st K) :
    ∃ st' N W, K st' N W /\ bJ C.E C.P ops o st st' N W := by
  unfold evOp at h
  split at h
  · rename_i hg
    have hgn : cK ops o = [] := by simp [cK, mH, hg]
    have hw : ∀ (G : Gh) (w : World) (a : Act), (∀ l, l ∈ cK ops o -> RepL G w a l st) -> Region.wanted o (yielded ops a.tmps) = true := fun _ _ _ _ => by simp [Region.wanted, hg]
    split at h
    · obtain ⟨r, tag, N, h, hf⟩ := qU hT hok h
      obtain ⟨r', h, he⟩ := fY h
      have := jF hw ((hf rfl).norm he)
      rw [hgn] at this
      exact ⟨_, _, _, h, this⟩
    · obtain ⟨r, tag, H, k, N, W, h, hf⟩ := qV hT hok h
      obtain ⟨r', h, he⟩ := fY h
      have := jF hw (hf.norm he)
      rw [hgn] at this
      exact ⟨_, _, _, h, this⟩
  · obtain ⟨g, h, _, hw⟩ := o5 h
    split at h
    · obtain ⟨r, tag, N, h, hf⟩ := qU hT hok h
      obtain ⟨r', h, he⟩ := fY h
      exact ⟨_, _, _, h, o7 hw fun hgt => ⟨tag, (hf hgt).norm he⟩⟩
    · cases g with
      | true =>
        obtain ⟨r, tag, H, k, N, W, h, hf⟩ := qV hT hok (h.1 rfl)
        obtain ⟨r', h, he⟩ := fY h
        exact ⟨_, _, _, h, jF hw (hf.norm he)⟩
      | false =>
        obtain ⟨a, h⟩ := h.2 rfl
        exact ⟨_, _, _, h, kC hw _⟩
def pZ (C : Cx) (ops : Array Oper) : List Oper -> St -> List (List Loc × List Loc) -> (St -> List (List Loc × List Loc) -> Prop) -> Prop
  | [], st, ft, K => K st ft
  | o :: rest, st, ft, K => evOp C ops o st fun st' N W => pZ C ops rest st' (ft ++ [(N, W)]) K
theorem fZ {C : Cx} (hT : TOk C.P C.T) {ops : Array Oper} : ∀ (l : List Oper) (st : St) (ft : List (List Loc × List Loc)) (K : St -> List (List Loc × List Loc) -> Prop), l.all (opOk C.T) = true -> pZ C ops l st ft K ->
    ∃ st' ft', K st' (ft ++ ft') /\ gW C.E C.P ops l st ft' st' := by
  intro l
  induction l with
  | nil => intro st ft K _ h; exact ⟨st, [], by rw [List.append_nil]; exact h, .nil st⟩
  | cons o rest ih =>
    intro st ft K hok h
    simp only [List.all_cons, yX] at hok
    obtain ⟨st1, N, W, h, hf⟩ := jC hT hok.1 h
    obtain ⟨st', ft', hk, hch⟩ := ih _ _ _ hok.2 h
    exact ⟨st', (N, W) :: ft', by simpa using hk, .cons _ _ _ _ _ _ _ _ hf hch⟩
def FnC (E : Env) (P : Program) (f : FuncId) (args : List AV) (ta : List (Option Nat)) (H : List AObj) (k : List Nat) (K : AV -> Option Nat -> List AObj -> List Nat -> Prop) : Prop :=
  bodied P f /\ ∀ (B : Base) (G : Gh) (w : World) (vals : List Value), Good E B G w -> (∀ i, aF G w i H[i]?) -> (∀ i, bA G w i k[i]?) -> vals.length = args.length ->
    (∀ (i : Nat) (v : Value) (c : AV), vals[i]? = some v -> args[i]? = some c -> aG G w v c (ta.getD i none)) ->
    Calls P f vals.toArray w fun e w' => ∃ v r tag H' k' G', e = .returned v /\ K r tag H' k' /\ Good E B G' w' /\ Ext G w G' w' /\ (∀ i, aF G' w' i H'[i]?) /\ (∀ i, bA G' w' i k'[i]?) /\ aG G' w' v r tag
def p4 (C : Cx) (st : St) (o : Oper) (K : St -> Prop) : Prop :=
  match o.op with
  | .call { callee := .value f, args := args, argTypes := tys } => match evV C.T st 0 f with
    | .fn fid a b => FnC C.E C.P fid (a ++ (tys.toList.zip args.toList).map (fun x => evV C.T st x.1 x.2) ++ b) (mX st a (tys.toList.zip args.toList)) st.H st.k fun r tag H k => K (st.put o.dst r tag H k)
    | _ => False
  | .binOp .eql t x (.const (.slice none 0 0)) _ => match C.T.at t, evV C.T st t x with
    | some ti, .list _ xs => (match ti.desc with | .slice _ => True | _ => False) /\ ∀ b, (b = true -> xs = []) -> K (st.put o.dst (.bool b) none st.H st.k)
    | _, _ => False
  | _ => False
def rK (o : Oper) : Bool :=
  match o.op with
  | .binOp .eql _ _ (.const (.slice none 0 0)) _ => true
  | _ => false
def m0 (C : Cx) (o : Oper) : Bool := (sU o || rK o) && (C.rows.contains (o.dst.getD 0) && o.guard.isNone)
def oI (C : Cx) (ops : Array Oper) : List Oper -> St -> (St -> Prop) -> Prop
  | [], st, K => K st
  | o :: rest, st, K => match m0 C o with
    | false => evOp C ops o st fun st' _ _ => oI C ops rest st' K
    | true => p4 C st o fun st' => oI C ops rest st' K
theorem l5 {E : Env} {B : Base} {st : St} {o : Oper} {G G' : Gh} {w w' : World} {a : Act} {v : Value} {r : AV} {tag : Option Nat} {H' : List AObj} {k' : List Nat} (hst : Conc E B G w a st) (hd : ∀ d, o.dst = some d -> d < B.nt)
    (hg : Good E B G' w') (hx : Ext G w G' w') (hobj : ∀ i, aF G' w' i H'[i]?) (htok : ∀ i, bA G' w' i k'[i]?) (hres : aG G' w' v r tag) : Conc E B G' w' (a.put o.dst v) (st.put o.dst r tag H' k') := by
  refine ⟨hg, ?_, ?_, fun l => ?_⟩
  · cases hd' : o.dst with
    | none => simpa [Act.put, hd'] using hst.size
    | some d => simpa [Act.put, hd'] using hst.size
  · cases hd' : o.dst with
    | none => simpa [Act.put, hd'] using hst.defers
    | some d => simpa [Act.put, hd'] using hst.defers
  · cases hd' : o.dst with
    | none =>
      cases l with
      | slot t => exact (hst.rep (.slot t)).ext hx
      | obj i => exact hobj i
      | tok i => exact htok i
    | some d =>
      cases l with
      | slot t =>
        have hdl : d < a.tmps.size := by rw [hst.size]; exact hd d hd'
        simp only [RepL, St.put, upd]
        cases ht : Nat.beq t d with
        | true =>
          have ht := Nat.eq_of_beq_eq_true ht
          subst ht
          have : (a.put (some t) v).tmps.getD t undef = v := by simp [Act.put, Array.getD_eq_getD_getElem?, hdl]
          rw [this]
          exact hres
        | false =>
          have ht := Nat.ne_of_beq_eq_false ht
          have : (a.put (some d) v).tmps.getD t undef = a.tmps.getD t undef := by
            simp only [Act.put, Array.getD_eq_getD_getElem?]
            rw [Array.getElem?_setIfInBounds_ne (fun e => ht e.symm)]
          rw [this]
          exact (hst.rep (.slot t)).ext hx
      | obj i => exact hobj i
      | tok i => exact htok i
theorem jD {C : Cx} (hT : TOk C.P C.T) {B : Base} {st : St} {o : Oper} {K' : St -> Prop} (hok : opOk C.T o = true) (h : p4 C st o K') (hd : ∀ d, o.dst = some d -> d < B.nt) {G : Gh} {w : World} {a : Act} (hst : Conc C.E B G w a st)
    {K : Act -> World -> Prop} {Q : Exit -> Act -> World -> Prop} (hK : ∀ G' w' a' st', K' st' -> Conc C.E B G' w' a' st' -> K a' w') : o.wp C.P a w K Q := by
  simp only [opOk, yX] at hok
  obtain ⟨hc, hl⟩ := hok
  unfold p4 at h
  split at h
  · rename_i f args tys ho
    rw [ho] at hl
    have h' : dQ C.T st true f (tys.toList.zip args.toList) fun fid as tas => FnC C.E C.P fid as tas st.H st.k fun r tag H k => K' (st.put o.dst r tag H k) := by
      unfold dQ
      split at h
      · rename_i fid fa fb hfe
        rw [hfe]
        exact h
      · exact h.elim
    obtain ⟨fid, as, tas, ⟨hb, hfn⟩, hcall⟩ := fF (E := C.E) (P := C.P) (Nat.eq_of_beq_eq_true hl) hc ho h'
    obtain ⟨vals, hexec, hlen, hrep⟩ := hcall rfl B G w a hst.good fun l _ => hst.rep l
    unfold Oper.wp
    rw [hexec, cD hb]
    refine (hfn B G w vals hst.good (fun i => hst.rep (.obj i)) (fun i => hst.rep (.tok i)) hlen hrep).mono ?_
    rintro e w' ⟨v, r, tag, H', k', G', rfl, hk, hg, hx, hobj, htok, hres⟩
    exact hK G' w' _ _ hk (l5 hst hd hg hx hobj htok hres)
  · rename_i t x yt ho
    split at h
    · rename_i ti sz xs hti hx
      obtain ⟨hds, h⟩ := h
      have hu := (hT _ _ hti).under
      have hr := (aE (T := C.T) hst.good (aA.at hc (ty := t) (x := x) (by simp [opcs, ho])) fun l _ => hst.rep l).1
      rw [hx] at hr
      obtain ⟨e, he⟩ : ∃ e, ti.desc = .slice e := by
        split at hds
        · rename_i e he; exact ⟨e, he⟩
        · exact hds.elim
      rw [he] at hu
      obtain ⟨ad, n, cap, hv, hn⟩ : ∃ ad n cap, a.eval x = .slice ad n cap /\ (ad = none -> xs = []) := by
        generalize a.eval x = vx at *
        cases hr with
        | empty => exact ⟨_, _, _, rfl, fun _ => rfl⟩
        | list => exact ⟨_, _, _, rfl, fun h => by cases h⟩
      have hrun : (execOp a.eval o).run C.P w = .ok (.value (.bool ad.isNone)) w := by
        have hcst : a.eval (.const (.slice none 0 0)) = .slice none 0 0 := rfl
        have hgd : (eqGuard .eql t x (.const (.slice none 0 0)) (.slice ad n cap) (.slice none 0 0)).run C.P w = .ok () w := rfl
        have heq : (Op.equal t (.slice ad n cap) (.slice none 0 0)).run C.P w = .ok ad.isNone w := by
          rw [show Op.equal t (.slice ad n cap) (.slice none 0 0) = Op.equalIn (9999 + 1) t (.slice ad n cap) (.slice none 0 0) from rfl]
          unfold Op.equalIn
          rw [Sem.run_bind, run_underlying hu, Result.andThen_ok]
          cases ad <;> rfl
        have hb : (binOp .eql t (.slice ad n cap) (.slice none 0 0)).run C.P w = .ok (.bool ad.isNone) w := by
          show (do pure (.bool (<- Op.equal t (.slice ad n cap) (.slice none 0 0))) : Sem Value).run C.P w = _
          simp only [heq, Sem.run_bind, Sem.run_pure, Result.andThen_ok]
        simp only [execOp, ho, Sem.run_bind, hv, hcst, hgd, hb, Result.andThen_ok, Sem.run_pure]
      unfold Oper.wp
      rw [hrun]
      exact hK G w _ _ (h ad.isNone fun hb => hn (by simpa using hb)) (l5 hst hd hst.good (.refl _ _) (fun i => hst.rep (.obj i)) (fun i => hst.rep (.tok i)) ⟨.bool .., trivial⟩)
    · exact h.elim
  · exact h.elim
theorem l6 {C : Cx} (hT : TOk C.P C.T) {ops : Array Oper} {Q : Exit -> Act -> World -> Prop} {B : Base} (hd : bB B.nt ops = true) {K : St -> Prop} :
    ∀ (l : List Oper) (i : Nat) (st : St), ops.toList.drop i = l -> l.all (opOk C.T) = true -> oI C ops l st K ->
    ∀ (G : Gh) (w : World) (a : Act), Conc C.E B G w a st -> (∀ G' w' a' st', K st' -> Conc C.E B G' w' a' st' -> Q .normal a' w') ->
    wpOps C.P ops Q (List.range' i l.length) a w := by
  intro l
  induction l with
  | nil => intro i st _ _ h G w a hst hQ; exact hQ _ _ _ _ h hst
  | cons o rest ih =>
    intro i st hdr hok h G w a hst hQ
    simp only [List.all_cons, yX] at hok
    have hi : i < ops.toList.length := by
      rcases Nat.lt_or_ge i ops.toList.length with h | h
      · exact h
      · rw [List.drop_eq_nil_of_le h] at hdr; cases hdr
    rw [List.drop_eq_getElem_cons hi] at hdr
    injection hdr with h1 h2
    have ho : ops[i]? = some o := by rw [<- yY, List.getElem?_eq_getElem hi, h1]
    simp only [List.length_cons, List.range'_succ]
    rw [wpOps_cons]
    unfold oI at h
    cases hb : m0 C o with
    | false =>
      rw [hb] at h
      obtain ⟨st', N, W, h, hf⟩ := jC hT hok.1 h
      refine dD ho (hf.run B G w a hst.good hst.size (bB.at hd ho) (fun l _ => hst.rep l) _ _ fun G' w' a' hg hsz hfr hW => ?_)
      exact ih (i + 1) _ h2 hok.2 h _ _ _ (hst.step hg hsz hfr hW hf.same) hQ
    | true =>
      rw [hb] at h
      have hg : o.guard = none := by
        unfold m0 at hb
        simp only [yX, Option.isNone_iff_eq_none] at hb
        exact hb.2.2
      refine dD ho ?_
      rw [if_pos (by simp [Region.wanted, hg])]
      exact jD hT hok.1 h (bB.at hd ho) hst fun G' w' a' st' hk hc => ih (i + 1) _ h2 hok.2 hk _ _ _ hc hQ
def isIns : Op -> Bool
  | .insert .. | .mapUpdate .. => true
  | _ => false
def insN (id : Nat) : Op -> List Loc
  | .insert _ m i x | .mapUpdate _ m i x => opN m ++ (opN i ++ opN x) ++ [.obj id]
  | _ => []
def jW (C : Cx) (ops : Array Oper) (id : Nat) : List Oper -> St -> List (List Loc × List Loc) -> List (Option (AV × AV)) -> (St -> List (List Loc × List Loc) -> List (Option (AV × AV)) -> Prop) -> Prop
  | [], st, ft, I, K => K st ft I
  | o :: rest, st, ft, I, K => match isIns o.op with
    | false => evOp C ops o st fun st' N W => jW C ops id rest st' (ft ++ [(N, W)]) (I ++ [none]) K
    | true => ∃ e, (∀ es, cJ (es ++ [e]) = true -> evOp C ops o (st.wM id es) fun st' N' W => st' = st.wM id (es ++ [e]) /\ N' = insN id o.op /\ W = [.obj id]) /\ jW C ops id rest st (ft ++ [(insN id o.op, [.obj id])]) (I ++ [some e]) K
structure oJ (E : Env) (P : Program) (ops : Array Oper) (id : Nat) (l : List Oper) (st : St) (ft : List (List Loc × List Loc)) (I : List (Option (AV × AV))) (st' : St) (S : Nat -> St) : Prop where
  first : S 0 = st
  last : S l.length = st'
  lf : ft.length = l.length
  lI : I.length = l.length
  plain : ∀ (i : Nat) (o : Oper), l[i]? = some o -> I.getD i none = none -> bJ E P ops o (S i) (S (i + 1)) (ft.getD i ([], [])).1 (ft.getD i ([], [])).2
  ins : ∀ (i : Nat) (o : Oper) (e : AV × AV) (es : List (AV × AV)), l[i]? = some o -> I.getD i none = some e -> cJ (es ++ [e]) = true -> bJ E P ops o ((S i).wM id es) ((S i).wM id (es ++ [e])) (ft.getD i ([], [])).1 [.obj id]
  stay : ∀ i, i < l.length -> (I.getD i none).isSome = true -> S (i + 1) = S i
theorem jX {C : Cx} (hT : TOk C.P C.T) {ops : Array Oper} {id : Nat} : ∀ (l : List Oper) (st : St) (ft : List (List Loc × List Loc)) (I : List (Option (AV × AV))) (K : St -> List (List Loc × List Loc) -> List (Option (AV × AV)) -> Prop), l.all (opOk C.T) = true -> jW C ops id l st ft I K ->
    ∃ st' ft' I' S, K st' (ft ++ ft') (I ++ I') /\ oJ C.E C.P ops id l st ft' I' st' S := by
  intro l
  induction l with
  | nil => intro st ft I K _ h; exact ⟨st, [], [], fun _ => st, by rw [List.append_nil, List.append_nil]; exact h, rfl, rfl, rfl, rfl, fun i o ho => by simp at ho, fun i o e es ho => by simp at ho, fun i hi => by simp at hi⟩
  | cons o rest ih =>
    intro st ft I K hok h
    simp only [List.all_cons, yX] at hok
    unfold jW at h
    split at h
    · obtain ⟨st1, N, W, h, hf⟩ := jC hT hok.1 h
      obtain ⟨st', ft', I', S, hk, hc⟩ := ih _ _ _ _ hok.2 h
      refine ⟨st', (N, W) :: ft', none :: I', fun i => match i with | 0 => st | i + 1 => S i, by simpa using hk, rfl, by simpa using hc.last, by simpa using hc.lf, by simpa using hc.lI, fun i o' ho hi => ?_, fun i o' e es ho hi => ?_, fun i hi hs => ?_⟩
      · cases i with
        | zero =>
          simp only [List.getElem?_cons_zero, Option.some.injEq] at ho
          subst ho
          simp only [List.getD_cons_zero, hc.first]
          exact hf
        | succ i => simp only [yZ] at ho; simpa using hc.plain i o' ho (by simpa using hi)
      · cases i with
        | zero => simp at hi
        | succ i => simp only [yZ] at ho; simpa using hc.ins i o' e es ho (by simpa using hi)
      · cases i with
        | zero => simp at hs
        | succ i => exact hc.stay i (by simpa using hi) (by simpa using hs)
    · obtain ⟨e0, hes, h⟩ := h
      obtain ⟨st', ft', I', S, hk, hc⟩ := ih _ _ _ _ hok.2 h
      refine ⟨st', (insN id o.op, [.obj id]) :: ft', some e0 :: I', fun i => match i with | 0 => st | i + 1 => S i, by simpa using hk, rfl, by simpa using hc.last, by simpa using hc.lf, by simpa using hc.lI, fun i o' ho hi => ?_, fun i o' e es ho hi hkk => ?_, fun i hi hs => ?_⟩
      · cases i with
        | zero => simp at hi
        | succ i => simp only [yZ] at ho; simpa using hc.plain i o' ho (by simpa using hi)
      · cases i with
        | zero =>
          simp only [List.getElem?_cons_zero, Option.some.injEq] at ho
          subst ho
          simp only [List.getD_cons_zero, Option.some.injEq] at hi
          subst hi
          obtain ⟨st1, N', W, ⟨e1, e2, e3⟩, hf⟩ := jC hT hok.1 (hes es hkk)
          subst e1 e2 e3
          simpa using hf
        | succ i => simp only [yZ] at ho; simpa using hc.ins i o' e es ho (by simpa using hi) hkk
      · cases i with
        | zero => exact hc.first
        | succ i => exact hc.stay i (by simpa using hi) (by simpa using hs)
theorem eB {E : Env} {P : Program} {ops : Array Oper} {Q : Exit -> Act -> World -> Prop} {B : Base} (hd : bB B.nt ops = true) (he : bL ops.toList = true) {id m : Nat}
    {st st' : St} {ft : List (List Loc × List Loc)} {I : List (Option (AV × AV))} {S : Nat -> St} (hc : oJ E P ops id ops.toList st ft I st' S) (hk : mF ops ft I id m = true)
    (hkeys : cJ (iD I) = true) (hH : st'.H[id]? = some (.mp (.map [])))
    {G : Gh} {w : World} {a : Act} (hst : Conc E B G w a st)
    (hQ : ∀ G' w' a', Conc E B G' w' a' (st'.wP id (iD I)) -> Q .normal a' w') : wpAny P .any ops Q ops.size (Array.replicate ops.size false) a { w with drawn := w.drawn + 1 } := by
  have hents : aR (fun i => I.getD i none) (fun _ => true) ops.size = iD I := by
    have := g7 I
    rw [hc.lI, Array.length_toList] at this
    exact this
  rw [<- hents] at hkeys hQ
  unfold mF at hk
  have k1 : m < ops.size := Nat.le_of_ble_eq_true (Bool.and_eq_true_iff.1 hk).1
  replace hk := (Bool.and_eq_true_iff.1 hk).2
  have k2 : I.getD m none = none := Option.isNone_iff_eq_none.1 (Bool.and_eq_true_iff.1 hk).1
  replace hk := (Bool.and_eq_true_iff.1 hk).2
  have k3 : Loc.obj id ∈ (ft.getD m ([], [])).2 := List.contains_iff_mem.1 (Bool.and_eq_true_iff.1 hk).1
  replace hk := (Bool.and_eq_true_iff.1 hk).2
  have k5 := (Bool.and_eq_true_iff.1 hk).1
  have k6 := fun i hi => List.all_eq_true.1 (Bool.and_eq_true_iff.1 hk).2 i (List.mem_range.2 hi)
  have hll : ops.toList.length = ops.size := Array.length_toList
  have hclean : ∀ i, i < ops.size -> I.getD i none = none -> i ≠ m -> Loc.obj id ∉ (ft.getD i ([], [])).1 /\ Loc.obj id ∉ (ft.getD i ([], [])).2 := fun i hi hx hne => by
    have := k6 i hi
    rw [hx] at this
    simp only [Bool.or_eq_true, yX, Bool.not_eq_true', Nat.beq_eq] at this
    rcases this with h | ⟨h1, h2⟩
    · exact absurd h hne
    · exact ⟨fun h => (by rw [List.contains_iff_mem.2 h] at h1; cases h1), fun h => (by rw [List.contains_iff_mem.2 h] at h2; cases h2)⟩
  have hins : ∀ i, i < ops.size -> (I.getD i none).isSome = true -> ((ancs ops.toList).getD i 0).testBit m = true /\ m < i := fun i hi hx => by
    have := k6 i hi
    cases hh : I.getD i none with
    | none => rw [hh] at hx; exact absurd hx (by simp)
    | some e => rw [hh] at this; simpa using this
  have hlast : S ops.size = st' := by rw [<- hll]; exact hc.last
  -- behind the map's making its place is not written in the text's order
  have hback : ∀ j, m + 1 + j <= ops.size -> (S (m + 1 + j)).H[id]? = (S (m + 1)).H[id]? := by
    intro j
    induction j with
    | zero => intro _; rfl
    | succ j ih =>
      intro hj
      rw [<- ih (by omega)]
      have hi : m + 1 + j < ops.size := by omega
      cases hh : I.getD (m + 1 + j) none with
      | none => exact ((hc.plain _ ops[m + 1 + j] (by rw [yY]; exact Array.getElem?_eq_getElem hi) hh).same (.obj id) (hclean _ hi hh (by omega)).2).symm
      | some e => rw [show m + 1 + (j + 1) = m + 1 + j + 1 by omega, hc.stay _ (by omega) (by rw [hh]; rfl)]
  have hmk : (S (m + 1)).H[id]? = some (.mp (.map [])) := by
    rw [<- hback (ops.size - (m + 1)) (by omega), show m + 1 + (ops.size - (m + 1)) = ops.size by omega, hlast]; exact hH
  have hlt : ∀ i, m < i -> i <= ops.size -> id < (S i).H.length := fun i h1 h2 => by
    have := hback (i - (m + 1)) (by omega)
    rw [show m + 1 + (i - (m + 1)) = i by omega, hmk] at this
    exact (List.getElem?_eq_some_iff.1 this).1
  have hcount : ∀ n, (Array.replicate n false).toList.count false = n := by intro n; simp
  have hno : ∀ k, (Array.replicate ops.size false).getD k false = false := fun k => by
    rw [Array.getD_eq_getD_getElem?, Array.getElem?_replicate]
    split <;> rfl
  refine lL (G := G) (I := fun i => I.getD i none) (id := id) (m := m) hd he (by rw [hc.lf, hll]) (fun i o ho hx => hc.plain i o (by rw [yY]; exact ho) hx) (fun i o e es ho hx hkk => hc.ins i o e es (by rw [yY]; exact ho) hx hkk)
    (fun i hi hx => ⟨fun l _ => by rw [hc.stay i (by omega) hx]; exact .refl _ _, hlt i (hins i hi hx).2 (by omega), (hins i hi hx).1⟩) hclean ⟨k1, k2, k3, hmk⟩ hkeys (hlt _ k1 (Nat.le_refl _)) k5
    (fun G' w' a' es hp h => hQ G' w' a' (by rw [<- hlast]; exact h.perm hp)) ops.size _ _ _ (by simp) (hcount _) ?_ ?_ hst.size hst.defers ?_ ?_ ?_
  · intro j o ho hj
    have := hno j
    rw [this] at hj; cases hj
  · have := hst.good
    exact ⟨this.fin, this.own, this.size, this.old, this.keep, this.new, this.os, this.tape, this.output, this.glob, this.gb, this.ids, this.toks, this.grow⟩
  · intro l _
    have hz : bI (fun k => (Array.replicate ops.size false).getD k false) (wrM (fun i => I.getD i none) id ft) l ops.size = 0 := by
      have hsp := aP (fun k => (Array.replicate ops.size false).getD k false) (wrM (fun i => I.getD i none) id ft) l ops.size
      rcases hsp.2.2 with h | ⟨k, _, hx, _⟩
      · exact h
      · have := hno k
        simp only [this] at hx; cases hx
    rw [hz, hc.first]
    exact (hst.rep l).drawn
  · intro _
    refine RepL.congr (s := S 0) (by rw [hc.first]; exact (hst.rep _).drawn) ?_
    have hf : ∀ j, j <= m -> a6 (.obj id) (S 0) (S j) := by
      intro j
      induction j with
      | zero => intro _; exact .refl _ _
      | succ j ih =>
        intro hj
        have hi : j < ops.size := by omega
        refine (ih (by omega)).trans ?_
        cases hh : I.getD j none with
        | none => exact (hc.plain _ ops[j] (by rw [yY]; exact Array.getElem?_eq_getElem hi) hh).same (.obj id) (hclean _ hi hh (by omega)).2
        | some e => rw [hc.stay _ (by omega) (by rw [hh]; rfl)]; exact .refl _ _
    exact hf m (Nat.le_refl _)
  · intro h
    rw [hno m] at h; cases h
theorem jE {E : Env} {P : Program} (hm : P.follows .mixedOrders = true) {ops : Array Oper} {Q : Exit -> Act -> World -> Prop} {B : Base} (hd : bB B.nt ops = true) (he : bL ops.toList = true) {rid id m : Nat}
    {st st' : St} {ft : List (List Loc × List Loc)} {I : List (Option (AV × AV))} {S : Nat -> St} (hc : oJ E P ops id ops.toList st ft I st' S) (hk : mF ops ft I id m = true)
    (hkeys : cJ (iD I) = true) (hH : st'.H[id]? = some (.mp (.map [])))
    {G : Gh} {w : World} {a : Act} (hst : Conc E B G w a st)
    (hQ : ∀ G' w' a', Conc E B G' w' a' (st'.wP id (iD I)) -> Q .normal a' w') : (Code.region rid ops true).wp P Q a w := wp_region_any hm (eB hd he hc hk hkeys hH hst hQ)
end Go.Pm
