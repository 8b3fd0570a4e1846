/-
  Generic: the evaluator over operations and regions.
-/
import Derived.Test.YtdnjgojkpfbimaaGreatDoorPm13
open _root_.List renaming getElem?_cons_succ -> aDx
namespace Go.Pm
open Go Go.RowKit
set_option linter.unusedVariables false
set_option linter.unusedSimpArgs false
structure Cx where
  E : Env
  P : Program
  T : Tab
  rows : List Nat
  nb : Nat := 0
  nk : Nat := 0
def zV (T : Tab) (src dst : TypeId) : Bool :=
  match T.at src, T.at dst with
  | some si, some di => match si.desc, di.desc with
    | .string, .slice _ => true
    | _, _ => false
  | _, _ => false
section
variable {E : Env} {P : Program} {T : Tab} {st : St} {o : Oper} {g : Bool}
def nR (T : Tab) (st : St) (g : Bool) (src dst : TypeId) (x : Operand) (k : AV -> Option Nat -> List Loc -> Prop) : Prop :=
  unc g (evV T st src x) fun a => match a, T.at src, T.at dst with
    | .str s, some si, some di => match si.desc, di.desc with
      | .string, .slice e => ((T.at e).any (fun ti => ti.desc matches .int .u8) = true /\ Nat.beq di.esz 1 = true) /\ k (.list 1 (s.map byteAV)) none (opN x)
      | _, _ => False
    | _, _, _ => False
theorem rI (hT : TOk P T) {src dst : TypeId} {x : Operand} {k : AV -> Option Nat -> List Loc -> Prop} (hc : aA T o = true) (ho : o.op = .convert src dst x) (h : nR T st g src dst x k) : Yld E P st o g k := by
  unfold nR at h
  obtain ⟨a', h, ha'⟩ := a8 h
  split at h
  · rename_i s si di hsi hdi
    split at h
    · rename_i e h1 h2
      obtain ⟨⟨hb, _⟩, h⟩ := h
      refine ⟨_, none, _, h, fun hgg => ⟨by simp, fun l _ => by cases l <;> trivial, fun B G w a hg hN K Q hK => ?_⟩⟩
      have r1 := ha' hgg _ _ _ _ (aI (T := T) hg (aA.at hc (ty := src) (x := x) (by simp [opcs, ho])) hN).1
      have hv : a.eval x = .string ⟨s.toArray⟩ /\ s.length <= maxLen := by
        generalize a.eval x = v at *
        cases r1 with | str _ _ hl => exact ⟨rfl, hl⟩
      have hge := grownCap_ge w s.length 0 e
      have hle := grownCap_le_maxLen w s.length 0 e hv.2
      have hsize := eY s (grownCap w s.length 0 e) hge
      have hgr := dT w (.cells (bytesRow ⟨s.toArray⟩ (grownCap w s.length 0 e)) e ((bytesRow ⟨s.toArray⟩ (grownCap w s.length 0 e)).size, (bytesRow ⟨s.toArray⟩ (grownCap w s.length 0 e)).size + 1))
      have hbel : Below w.heap.size w (w.drew.alloc (.cells (bytesRow ⟨s.toArray⟩ (grownCap w s.length 0 e)) e ((bytesRow ⟨s.toArray⟩ (grownCap w s.length 0 e)).size, (bytesRow ⟨s.toArray⟩ (grownCap w s.length 0 e)).size + 1))) :=
        ⟨rfl, rfl, rfl, by rw [hgr.size]; omega, fun b hb => hgr.old b hb⟩
      obtain ⟨g1, g2⟩ := eJ hg (F' := fun b o => G.F b o ∨ (b = w.heap.size /\ o < s.length)) hbel (fun _ _ h => .inl h) (fun b o hb => by
        rw [hgr.size]
        rcases hb with hb | ⟨hb, _⟩
        · exact ⟨by have := hg.fin b o hb; omega, .inl hb⟩
        · exact ⟨by omega, .inr (by omega)⟩)
      unfold Oper.wp
      rw [gR hT ho hsi hdi h1 h2 hb a w hv.1]
      refine hK _ _ _ g1 g2 ⟨?_, trivial⟩ (by simp)
      refine Rep.list_of (by simp) hge hle (fun e he => by obtain ⟨b, _, rfl⟩ := List.mem_map.1 he; rfl) (fun j hj => .inr ⟨rfl, by simp at hj; omega⟩) fun i el j c hi hj => ?_
      have hi' : s[i]?.map byteAV = some el := by simpa using hi
      cases hs : s[i]? with
      | none => rw [hs] at hi'; cases hi'
      | some b =>
        rw [hs] at hi'
        simp only [Option.map_some, Option.some.injEq] at hi'
        subst hi'
        cases j with
        | zero =>
          simp only [byteAV, AV.cells, List.getElem?_cons_zero, Option.some.injEq] at hj
          subst hj
          refine ⟨_, ?_, rfl, .int _ _ _ (lR b)⟩
          rw [fW hgr.new, Nat.mul_one, Nat.add_zero, Nat.zero_add]
          exact fO s _ hge i b hs
        | succ j => simp [byteAV, AV.cells] at hj
    · exact h.elim
  · exact h.elim
end
def aAI (T : Tab) (o : Oper) : Bool :=
  match o.op with
  | .move (.const (.slice none 0 0)) | .assign (.const (.slice none 0 0)) => false
  | .move _ | .assign _ | .pick .. | .binOp .. | .unOp .. | .load .. | .fieldAddr .. | .field .. | .indexAddr .. | .index .. | .lookup .. | .extract .. | .makeInterface .. | .makeFunc .. | .nilCheck _ | .build .. => true
  | .convert src dst _ => !zV T src dst || o.guard.isSome
  | .slice _ _ _ _ mx => mx.isNone
  | .call { callee := .builtin .len, .. } | .call { callee := .builtin .min, .. } | .call { callee := .builtin .max, .. } => true
  | .call { callee := .value _, .. } => o.guard.isSome
  | _ => false
def isStrT (T : Tab) (t : TypeId) : Bool := match T.at t with | some ti => (match ti.desc with | .string => true | _ => false) | none => false
def evP (C : Cx) (st : St) (g : Bool) (o : Oper) (k : AV -> Option Nat -> List Loc -> Prop) : Prop :=
  match o.op with
  | .move x | .assign x => xD C.T st g o.type x k
  | .pick c x y => xE C.T st g o.type c x y k
  | .binOp op t x y _ => aBf C.T st g op t x y k
  | .unOp op t x => evUn C.T st g op t x k
  | .load t x => xJ C.T st g t x k
  | .fieldAddr t x n => gW C.T st g t x n k
  | .field t x n => rS C.T st g t x n k
  | .indexAddr t x i => gX C.T st g t x i k
  | .index t x i => rT C.T st g t x i k
  | .extract x n => lS C.T st g x n k
  | .makeInterface t x => gY C.T st t x k
  | .makeFunc fn a b => jA C.T st fn a.toList b.toList k
  | .nilCheck x => jB C.T st g x k
  | .build t ps => rV C.T st g t ps.toList k
  | .convert src dst x => match zV C.T src dst with
    | true => nR C.T st g src dst x k
    | false => match isIntT C.T src && isStrT C.T dst with
      | true => wH C.T st g src dst x k
      | false => xH C.T st g src dst x k
  | .slice t x lo hi none => rR C.T st g t x lo hi k
  | .call { callee := .builtin .len, args := ⟨[x]⟩, argTypes := ⟨[t]⟩ } => aBi C.T st g t x k
  | .call { callee := .builtin .min, args := ⟨[x, y]⟩, argTypes := ⟨[tx, ty]⟩ } => kF C.T st g false tx ty x y k
  | .call { callee := .builtin .max, args := ⟨[x, y]⟩, argTypes := ⟨[tx, ty]⟩ } => kF C.T st g true tx ty x y k
  | .call { callee := .value f, args := args, argTypes := tys } => rG C.E C.P C.T st g f (tys.toList.zip args.toList) k
  | _ => False
def evH (C : Cx) (st : St) (o : Oper) (k : KH) : Prop :=
  match o.op with
  | .move (.const (.slice none 0 0)) | .assign (.const (.slice none 0 0)) => aA3 C.T st o.type k
  | .alloc t => match C.rows.contains (o.dst.getD 0) with
    | true => nQ C.T st t k
    | false => q6 C.T st t k
  | .box t x => aA2 C.T st t x k
  | .range t x => rD C.T st t x k
  | .next x true => wF C.T st x k
  | .buildSlice t n ps => fN C.T st t n ps.toList k
  | .convert src dst x => match C.rows.contains (o.dst.getD 0) with
    | true => iT C.T st src dst x k
    | false => rA C.T st src dst x k
  | .store t a v => rB C.T st t a v k
  | .slice t x lo (some hi) (some mx) => wC C.T st t x lo hi mx k
  | .call { callee := .builtin .append, args := ⟨[s, x]⟩, argTypes := ⟨[ts, tx]⟩ } => match C.rows.contains (o.dst.getD 0) with
    | true => gS C.T st ts tx s x k
    | false => nP C.T st ts tx s x k
  | .call { callee := .value f, args := args, argTypes := tys } => rH C.E C.P C.T st f (tys.toList.zip args.toList) k
  | _ => False
def opOk (T : Tab) (o : Oper) : Bool := aA T o && (match o.op with | .call c => Nat.beq c.argTypes.toList.length c.args.toList.length | _ => true)
theorem aAJ {C : Cx} (hT : TOk C.P C.T) {st : St} {g : Bool} {o : Oper} {k : AV -> Option Nat -> List Loc -> Prop} (hok : opOk C.T o = true) (h : evP C st g o k) : Yld C.E C.P st o g k := by
  simp only [opOk, Bool.and_eq_true] at hok
  obtain ⟨hc, hl⟩ := hok
  unfold evP at h
  split at h
  · rename_i x ho; exact pU hc (.inl ho) h
  · rename_i x ho; exact pU hc (.inr ho) h
  · rename_i ho; exact xF hc ho h
  · rename_i ho; exact aAb hT hc ho h
  · rename_i ho; exact aBg hc ho h
  · rename_i ho; exact xK hT hc ho h
  · rename_i ho; exact mK hT hc ho h
  · rename_i ho; exact vB hT hc ho h
  · rename_i ho; exact mL hT hc ho h
  · rename_i ho; exact vC hT hc ho h
  · rename_i ho; exact pX hc ho h
  · rename_i ho; exact mM hT hc ho h
  · rename_i ho; exact nZ hc ho h
  · rename_i ho; exact n5 hc ho h
  · rename_i ho; exact vD hT hc ho h
  · rename_i ho
    split at h
    · exact rI hT hc ho h
    · split at h
      · exact wI hT hc ho h
      · exact xI hT hc ho h
  · rename_i ho; exact vA hT hc ho h
  · rename_i ho; exact aAc hT hc ho h
  · rename_i ho; exact lQ (mx := false) hc ho h
  · rename_i ho; exact lQ (mx := true) hc ho h
  · rename_i ho
    rw [ho] at hl
    exact uQ (Nat.eq_of_beq_eq_true hl) hc ho h
  · exact h.elim
theorem aAK {C : Cx} (hT : TOk C.P C.T) {st : St} {o : Oper} {k : KH} (hok : opOk C.T o = true) (h : evH C st o k) : YldH C.E C.P st o k := by
  simp only [opOk, Bool.and_eq_true] at hok
  obtain ⟨hc, hl⟩ := hok
  unfold evH at h
  split at h
  · rename_i ho; exact sO (.inl ho) h
  · rename_i ho; exact sO (.inr ho) h
  · rename_i ho
    split at h
    · exact rE hT ho h
    · exact uJ hT ho h
  · rename_i ho; exact zQ hc ho h
  · rename_i ho; exact uO hT hc ho h
  · rename_i ho; exact wG (ty := 0) hc ho h
  · rename_i ho; exact kX hT hc ho h
  · rename_i ho
    split at h
    · exact nO hT hc ho h
    · exact uL hT hc ho h
  · rename_i ho; exact uN hT hc ho h
  · rename_i ho; exact wD hT hc ho h
  · rename_i ho
    split at h
    · exact mI hT hc ho h
    · exact rC hT hc ho h
  · rename_i ho
    rw [ho] at hl
    exact uR (Nat.eq_of_beq_eq_true hl) hc ho h
  · exact h.elim
inductive NormE (r : AV) (K : AV -> Prop) : Prop
  | same (h : K r)
  | to (r' : AV) (he : Wf r -> r = r') (h : K r')
def wL (b : Bool) (r : AV) (K : AV -> Prop) : Prop :=
  match b with
  | true => NormE r K
  | false => K r
theorem kC {b : Bool} {r : AV} {K : AV -> Prop} (h : wL b r K) : ∃ r', K r' /\ (Wf r -> r = r') := by
  cases b with
  | false => exact ⟨r, h, fun _ => rfl⟩
  | true =>
    cases h with
    | same h => exact ⟨r, h, fun _ => rfl⟩
    | to r' he h => exact ⟨r', h, he⟩
def sQ (T : Tab) (o : Oper) : Bool :=
  match o.op with
  | .slice .. | .buildSlice .. => true
  | .call { callee := .builtin .len, .. } | .call { callee := .builtin .append, .. } => true
  | .binOp .add t _ _ _ => (match T.at t with | some ti => (match ti.desc with | .string => true | _ => false) | none => false)
  | .load t _ => (match T.at t with | some ti => fV ti.desc | none => false)
  | _ => false
theorem dL.norm {E : Env} {P : Program} {st : St} {o : Oper} {r r' : AV} {tag : Option Nat} {H : List AObj} {k : List Nat} {N W : List Loc} (h : dL E P st o r tag H k N W) (he : Wf r -> r = r') : dL E P st o r' tag H k N W :=
  ⟨h.noslot, h.same, fun B G w a hg hN K Q hK => h.run B G w a hg hN K Q fun G' w' v h1 h2 h3 h4 => hK G' w' v h1 h2 (by have := he h3.1.wf; rw [<- this]; exact h3) h4⟩
def callV (o : Oper) : Bool :=
  match o.op with
  | .call { callee := .value _, .. } => true
  | _ => false
def evOp (C : Cx) (ops : Array Oper) (o : Oper) (st : St) (K : St -> List Loc -> List Loc -> Prop) : Prop :=
  match o.guard with
  | none => match aAI C.T o with
    | true => evP C st true o fun r tag N => wL (sQ C.T o) r fun r => K (st.put o.dst r tag st.H st.k) N (dstW o.dst ++ [])
    | false => evH C st o fun r tag H k N W => wL (sQ C.T o) r fun r => K (st.put o.dst r tag H k) N (dstW o.dst ++ W)
  | some _ => w9 ops o st fun g => match aAI C.T o && !(callV o && C.rows.contains (o.dst.getD 0)) with
    | true => evP C st g o fun r _ N => wL (sQ C.T o) r fun r => K (st.put o.dst (.cond g r) none st.H st.k) (dW ops o ++ N) (dstW o.dst ++ [])
    | false => (g = true -> evH C st o fun r tag H k N W => wL (sQ C.T o) r fun r => K (st.put o.dst r tag H k) (dW ops o ++ N) (dstW o.dst ++ W)) /\
        (g = false -> ∃ a, K (st.put o.dst (.cond false a) none st.H st.k) (dW ops o) (dstW o.dst ++ []))
theorem rJ {C : Cx} (hT : TOk C.P C.T) {ops : Array Oper} {st : St} {o : Oper} {K : St -> List Loc -> List Loc -> Prop} (hok : opOk C.T o = true) (h : evOp C ops o st K) :
    ∃ st' N W, K st' N W /\ cL C.E C.P ops o st st' N W := by
  unfold evOp at h
  split at h
  · rename_i hg
    have hgn : dW ops o = [] := by simp [dW, s8, hg]
    have hw : ∀ (G : Gh) (w : World) (a : Act), (∀ l, l ∈ dW ops o -> RepL G w a l st) -> Region.wanted o (yielded ops a.tmps) = true := fun _ _ _ _ => by simp [Region.wanted, hg]
    split at h
    · obtain ⟨r, tag, N, h, hf⟩ := aAJ hT hok h
      obtain ⟨r', h, he⟩ := kC h
      have := nY hw ((hf rfl).norm he)
      rw [hgn] at this
      exact ⟨_, _, _, h, this⟩
    · obtain ⟨r, tag, H, k, N, W, h, hf⟩ := aAK hT hok h
      obtain ⟨r', h, he⟩ := kC h
      have := nY hw (hf.norm he)
      rw [hgn] at this
      exact ⟨_, _, _, h, this⟩
  · obtain ⟨g, h, _, hw⟩ := xA h
    split at h
    · obtain ⟨r, tag, N, h, hf⟩ := aAJ hT hok h
      obtain ⟨r', h, he⟩ := kC h
      exact ⟨_, _, _, h, xC hw fun hgt => ⟨tag, (hf hgt).norm he⟩⟩
    · cases g with
      | true =>
        obtain ⟨r, tag, H, k, N, W, h, hf⟩ := aAK hT hok (h.1 rfl)
        obtain ⟨r', h, he⟩ := kC h
        exact ⟨_, _, _, h, nY hw (hf.norm he)⟩
      | false =>
        obtain ⟨a, h⟩ := h.2 rfl
        exact ⟨_, _, _, h, pT hw _⟩
def zW (C : Cx) (ops : Array Oper) : List Oper -> St -> List (List Loc × List Loc) -> (St -> List (List Loc × List Loc) -> Prop) -> Prop
  | [], st, ft, K => K st ft
  | o :: rest, st, ft, K => evOp C ops o st fun st' N W => zW C ops rest st' (ft ++ [(N, W)]) K
theorem kD {C : Cx} (hT : TOk C.P C.T) {ops : Array Oper} : ∀ (l : List Oper) (st : St) (ft : List (List Loc × List Loc)) (K : St -> List (List Loc × List Loc) -> Prop), l.all (opOk C.T) = true -> zW C ops l st ft K ->
    ∃ st' ft', K st' (ft ++ ft') /\ nV C.E C.P ops l st ft' st' := by
  intro l
  induction l with
  | nil => intro st ft K _ h; exact ⟨st, [], by rw [List.append_nil]; exact h, .nil st⟩
  | cons o rest ih =>
    intro st ft K hok h
    simp only [List.all_cons, Bool.and_eq_true] at hok
    obtain ⟨st1, N, W, h, hf⟩ := rJ hT hok.1 h
    obtain ⟨st', ft', hk, hch⟩ := ih _ _ _ hok.2 h
    exact ⟨st', (N, W) :: ft', by simpa using hk, .cons _ _ _ _ _ _ _ _ hf hch⟩
def isIns : Op -> Bool
  | .insert .. | .mapUpdate .. => true
  | _ => false
def insN (id : Nat) : Op -> List Loc
  | .insert _ m i x | .mapUpdate _ m i x => opN m ++ (opN i ++ opN x) ++ [.obj id]
  | _ => []
def pG (C : Cx) (ops : Array Oper) (id : Nat) : List Oper -> St -> List (List Loc × List Loc) -> List (Option (AV × AV)) -> (St -> List (List Loc × List Loc) -> List (Option (AV × AV)) -> Prop) -> Prop
  | [], st, ft, I, K => K st ft I
  | o :: rest, st, ft, I, K => match isIns o.op with
    | false => evOp C ops o st fun st' N W => pG C ops id rest st' (ft ++ [(N, W)]) (I ++ [none]) K
    | true => ∃ e, (∀ es, fC (es ++ [e]) = true -> evOp C ops o (st.wM id es) fun st' N' W => st' = st.wM id (es ++ [e]) /\ N' = insN id o.op /\ W = [.obj id]) /\ pG C ops id rest st (ft ++ [(insN id o.op, [.obj id])]) (I ++ [some e]) K
structure wN (E : Env) (P : Program) (ops : Array Oper) (id : Nat) (l : List Oper) (st : St) (ft : List (List Loc × List Loc)) (I : List (Option (AV × AV))) (st' : St) (S : Nat -> St) : Prop where
  first : S 0 = st
  last : S l.length = st'
  lf : ft.length = l.length
  lI : I.length = l.length
  plain : ∀ (i : Nat) (o : Oper), l[i]? = some o -> I.getD i none = none -> cL E P ops o (S i) (S (i + 1)) (ft.getD i ([], [])).1 (ft.getD i ([], [])).2
  ins : ∀ (i : Nat) (o : Oper) (e : AV × AV) (es : List (AV × AV)), l[i]? = some o -> I.getD i none = some e -> fC (es ++ [e]) = true -> cL E P ops o ((S i).wM id es) ((S i).wM id (es ++ [e])) (ft.getD i ([], [])).1 [.obj id]
  stay : ∀ i, i < l.length -> (I.getD i none).isSome = true -> S (i + 1) = S i
theorem pI {C : Cx} (hT : TOk C.P C.T) {ops : Array Oper} {id : Nat} : ∀ (l : List Oper) (st : St) (ft : List (List Loc × List Loc)) (I : List (Option (AV × AV))) (K : St -> List (List Loc × List Loc) -> List (Option (AV × AV)) -> Prop), l.all (opOk C.T) = true -> pG C ops id l st ft I K ->
    ∃ st' ft' I' S, K st' (ft ++ ft') (I ++ I') /\ wN C.E C.P ops id l st ft' I' st' S := by
  intro l
  induction l with
  | nil => intro st ft I K _ h; exact ⟨st, [], [], fun _ => st, by rw [List.append_nil, List.append_nil]; exact h, rfl, rfl, rfl, rfl, fun i o ho => by simp at ho, fun i o e es ho => by simp at ho, fun i hi => by simp at hi⟩
  | cons o rest ih =>
    intro st ft I K hok h
    simp only [List.all_cons, Bool.and_eq_true] at hok
    unfold pG at h
    split at h
    · obtain ⟨st1, N, W, h, hf⟩ := rJ hT hok.1 h
      obtain ⟨st', ft', I', S, hk, hc⟩ := ih _ _ _ _ hok.2 h
      refine ⟨st', (N, W) :: ft', none :: I', fun i => match i with | 0 => st | i + 1 => S i, by simpa using hk, rfl, by simpa using hc.last, by simpa using hc.lf, by simpa using hc.lI, fun i o' ho hi => ?_, fun i o' e es ho hi => ?_, fun i hi hs => ?_⟩
      · cases i with
        | zero =>
          simp only [List.getElem?_cons_zero, Option.some.injEq] at ho
          subst ho
          simp only [List.getD_cons_zero, hc.first]
          exact hf
        | succ i => simp only [aDx] at ho; simpa using hc.plain i o' ho (by simpa using hi)
      · cases i with
        | zero => simp at hi
        | succ i => simp only [aDx] at ho; simpa using hc.ins i o' e es ho (by simpa using hi)
      · cases i with
        | zero => simp at hs
        | succ i => exact hc.stay i (by simpa using hi) (by simpa using hs)
    · obtain ⟨e0, hes, h⟩ := h
      obtain ⟨st', ft', I', S, hk, hc⟩ := ih _ _ _ _ hok.2 h
      refine ⟨st', (insN id o.op, [.obj id]) :: ft', some e0 :: I', fun i => match i with | 0 => st | i + 1 => S i, by simpa using hk, rfl, by simpa using hc.last, by simpa using hc.lf, by simpa using hc.lI, fun i o' ho hi => ?_, fun i o' e es ho hi hkk => ?_, fun i hi hs => ?_⟩
      · cases i with
        | zero => simp at hi
        | succ i => simp only [aDx] at ho; simpa using hc.plain i o' ho (by simpa using hi)
      · cases i with
        | zero =>
          simp only [List.getElem?_cons_zero, Option.some.injEq] at ho
          subst ho
          simp only [List.getD_cons_zero, Option.some.injEq] at hi
          subst hi
          obtain ⟨st1, N', W, ⟨e1, e2, e3⟩, hf⟩ := rJ hT hok.1 (hes es hkk)
          subst e1 e2 e3
          simpa using hf
        | succ i => simp only [aDx] at ho; simpa using hc.ins i o' e es ho (by simpa using hi) hkk
      · cases i with
        | zero => exact hc.first
        | succ i => exact hc.stay i (by simpa using hi) (by simpa using hs)
theorem gM {E : Env} {P : Program} {ops : Array Oper} {Q : Exit -> Act -> World -> Prop} {B : Base} (hd : dV B.nt ops = true) (he : dF ops.toList = true) {id m : Nat}
    {st st' : St} {ft : List (List Loc × List Loc)} {I : List (Option (AV × AV))} {S : Nat -> St} (hc : wN E P ops id ops.toList st ft I st' S) (hk : sZ ops ft I id m = true)
    (hkeys : fC (mJ I) = true) (hH : st'.H[id]? = some (.mp (.map [])))
    {G : Gh} {w : World} {a : Act} (hst : Conc E B G w a st)
    (hQ : ∀ G' w' a', Conc E B G' w' a' (st'.wP id (mJ I)) -> Q .normal a' w') : wpAny P .any ops Q ops.size (Array.replicate ops.size false) a { w with drawn := w.drawn + 1 } := by
  have hents : bF (fun i => I.getD i none) (fun _ => true) ops.size = mJ I := by
    have := lO I
    rw [hc.lI, Array.length_toList] at this
    exact this
  rw [<- hents] at hkeys hQ
  unfold sZ at hk
  have k1 : m < ops.size := Nat.le_of_ble_eq_true (Bool.and_eq_true_iff.1 hk).1
  replace hk := (Bool.and_eq_true_iff.1 hk).2
  have k2 : I.getD m none = none := Option.isNone_iff_eq_none.1 (Bool.and_eq_true_iff.1 hk).1
  replace hk := (Bool.and_eq_true_iff.1 hk).2
  have k3 : Loc.obj id ∈ (ft.getD m ([], [])).2 := List.contains_iff_mem.1 (Bool.and_eq_true_iff.1 hk).1
  replace hk := (Bool.and_eq_true_iff.1 hk).2
  have k5 := (Bool.and_eq_true_iff.1 hk).1
  have k6 := fun i hi => List.all_eq_true.1 (Bool.and_eq_true_iff.1 hk).2 i (List.mem_range.2 hi)
  have hll : ops.toList.length = ops.size := Array.length_toList
  have hclean : ∀ i, i < ops.size -> I.getD i none = none -> i ≠ m -> Loc.obj id ∉ (ft.getD i ([], [])).1 /\ Loc.obj id ∉ (ft.getD i ([], [])).2 := fun i hi hx hne => by
    have := k6 i hi
    rw [hx] at this
    simp only [Bool.or_eq_true, Bool.and_eq_true, Bool.not_eq_true', Nat.beq_eq] at this
    rcases this with h | ⟨h1, h2⟩
    · exact absurd h hne
    · exact ⟨fun h => (by rw [List.contains_iff_mem.2 h] at h1; cases h1), fun h => (by rw [List.contains_iff_mem.2 h] at h2; cases h2)⟩
  have hins : ∀ i, i < ops.size -> (I.getD i none).isSome = true -> ((ancs ops.toList).getD i 0).testBit m = true /\ m < i := fun i hi hx => by
    have := k6 i hi
    cases hh : I.getD i none with
    | none => rw [hh] at hx; exact absurd hx (by simp)
    | some e => rw [hh] at this; simpa using this
  have hlast : S ops.size = st' := by rw [<- hll]; exact hc.last
  -- behind the map's making its place is not written in the text's order
  have hback : ∀ j, m + 1 + j <= ops.size -> (S (m + 1 + j)).H[id]? = (S (m + 1)).H[id]? := by
    intro j
    induction j with
    | zero => intro _; rfl
    | succ j ih =>
      intro hj
      rw [<- ih (by omega)]
      have hi : m + 1 + j < ops.size := by omega
      cases hh : I.getD (m + 1 + j) none with
      | none => exact ((hc.plain _ ops[m + 1 + j] (by rw [Array.getElem?_toList]; exact Array.getElem?_eq_getElem hi) hh).same (.obj id) (hclean _ hi hh (by omega)).2).symm
      | some e => rw [show m + 1 + (j + 1) = m + 1 + j + 1 by omega, hc.stay _ (by omega) (by rw [hh]; rfl)]
  have hmk : (S (m + 1)).H[id]? = some (.mp (.map [])) := by
    rw [<- hback (ops.size - (m + 1)) (by omega), show m + 1 + (ops.size - (m + 1)) = ops.size by omega, hlast]; exact hH
  have hlt : ∀ i, m < i -> i <= ops.size -> id < (S i).H.length := fun i h1 h2 => by
    have := hback (i - (m + 1)) (by omega)
    rw [show m + 1 + (i - (m + 1)) = i by omega, hmk] at this
    exact (List.getElem?_eq_some_iff.1 this).1
  have hcount : ∀ n, (Array.replicate n false).toList.count false = n := by intro n; simp
  have hno : ∀ k, (Array.replicate ops.size false).getD k false = false := fun k => by
    rw [Array.getD_eq_getD_getElem?, Array.getElem?_replicate]
    split <;> rfl
  refine rO (G := G) (I := fun i => I.getD i none) (id := id) (m := m) hd he (by rw [hc.lf, hll]) (fun i o ho hx => hc.plain i o (by rw [Array.getElem?_toList]; exact ho) hx) (fun i o e es ho hx hkk => hc.ins i o e es (by rw [Array.getElem?_toList]; exact ho) hx hkk)
    (fun i hi hx => ⟨fun l _ => by rw [hc.stay i (by omega) hx]; exact .refl _ _, hlt i (hins i hi hx).2 (by omega), (hins i hi hx).1⟩) hclean ⟨k1, k2, k3, hmk⟩ hkeys (hlt _ k1 (Nat.le_refl _)) k5
    (fun G' w' a' es hp h => hQ G' w' a' (by rw [<- hlast]; exact h.perm hp)) ops.size _ _ _ (by simp) (hcount _) ?_ ?_ hst.size hst.defers ?_ ?_ ?_
  · intro j o ho hj
    have := hno j
    rw [this] at hj; cases hj
  · have := hst.good
    exact ⟨this.fin, this.own, this.size, this.old, this.keep, this.new, this.os, this.tape, this.output, this.glob, this.gb, this.ids, this.toks⟩
  · intro l _
    have hz : dK (fun k => (Array.replicate ops.size false).getD k false) (wrM (fun i => I.getD i none) id ft) l ops.size = 0 := by
      have hsp := cC (fun k => (Array.replicate ops.size false).getD k false) (wrM (fun i => I.getD i none) id ft) l ops.size
      rcases hsp.2.2 with h | ⟨k, _, hx, _⟩
      · exact h
      · have := hno k
        simp only [this] at hx; cases hx
    rw [hz, hc.first]
    exact (hst.rep l).drawn
  · intro _
    refine RepL.congr (s := S 0) (by rw [hc.first]; exact (hst.rep _).drawn) ?_
    have hf : ∀ j, j <= m -> bS (.obj id) (S 0) (S j) := by
      intro j
      induction j with
      | zero => intro _; exact .refl _ _
      | succ j ih =>
        intro hj
        have hi : j < ops.size := by omega
        refine (ih (by omega)).trans ?_
        cases hh : I.getD j none with
        | none => exact (hc.plain _ ops[j] (by rw [Array.getElem?_toList]; exact Array.getElem?_eq_getElem hi) hh).same (.obj id) (hclean _ hi hh (by omega)).2
        | some e => rw [hc.stay _ (by omega) (by rw [hh]; rfl)]; exact .refl _ _
    exact hf m (Nat.le_refl _)
  · intro h
    rw [hno m] at h; cases h
theorem nS {E : Env} {P : Program} (hm : P.follows .mixedOrders = true) {ops : Array Oper} {Q : Exit -> Act -> World -> Prop} {B : Base} (hd : dV B.nt ops = true) (he : dF ops.toList = true) {rid id m : Nat}
    {st st' : St} {ft : List (List Loc × List Loc)} {I : List (Option (AV × AV))} {S : Nat -> St} (hc : wN E P ops id ops.toList st ft I st' S) (hk : sZ ops ft I id m = true)
    (hkeys : fC (mJ I) = true) (hH : st'.H[id]? = some (.mp (.map [])))
    {G : Gh} {w : World} {a : Act} (hst : Conc E B G w a st)
    (hQ : ∀ G' w' a', Conc E B G' w' a' (st'.wP id (mJ I)) -> Q .normal a' w') : (Code.region rid ops true).wp P Q a w := wp_region_any hm (gM hd he hc hk hkeys hH hst hQ)
end Go.Pm
