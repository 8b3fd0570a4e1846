/-
  Generic: functions that are handed objects.
-/
import Derived.Test.YtpionnihpibglaaGreatDoorPm13
import Derived.Scope
namespace Go.Pm
open Go Go.RowKit
set_option linter.unusedVariables false
set_option linter.unusedSimpArgs false
structure Cx where
 E : Env
 P : Program
 T : Tab
 rows : List Nat
 nb : Nat := 0
 nk : Nat := 0
def strBytes (T : Tab) (src dst : TypeId) : Bool :=
 match T.at src, T.at dst with
 | some si, some di => match si.desc, di.desc with
  | .string, .slice _ => true
  | _, _ => false
 | _, _ => false
section
variable {E : Env} {P : Program} {T : Tab} {st : St} {o : Oper} {g : Bool}
def evBytes0 (T : Tab) (st : St) (g : Bool) (src dst : TypeId) (x : Operand) (k : AV → Option Nat → List Loc → Prop) : Prop :=
 unc g (evV T st src x) fun a => match a, T.at src, T.at dst with
  | .str s, some si, some di => match si.desc, di.desc with
   | .string, .slice e => ((T.at e).any (fun ti => ti.desc matches .int .u8) = true ∧ Nat.beq di.esz 1 = true) ∧ k (.list 1 (s.map byteAV)) none (opN x)
   | _, _ => False
  | _, _, _ => False
theorem evBytes0_ok (hT : TOk P T) {src dst : TypeId} {x : Operand} {k : AV → Option Nat → List Loc → Prop} (hc : constOk T o = true) (ho : o.op = .convert src dst x) (h : evBytes0 T st g src dst x k) : Yld E P st o g k := by
 unfold evBytes0 at h
 obtain ⟨a', h, ha'⟩ := unc_ok h
 split at h
 ·rename_i s si di hsi hdi
  split at h
  ·rename_i e h1 h2
   obtain ⟨⟨hb, _⟩, h⟩ := h
   refine ⟨_, none, _, h, fun hgg => ⟨by simp, fun l _ => by cases l <;> trivial, fun B G w a hg hN K Q hK => ?_⟩⟩
   have r1 := ha' hgg _ _ _ _ (evV_ok (T := T) hg (constOk.at hc (ty := src) (x := x) (by simp [opcs, ho])) hN).1
   have hv : a.eval x = .string ⟨s.toArray⟩ ∧ s.length ≤ maxLen := by
    generalize a.eval x = v at *
    cases r1 with | str _ _ hl => exact ⟨rfl, hl⟩
   have hge := grownCap_ge w s.length 0 e
   have hle := grownCap_le_maxLen w s.length 0 e hv.2
   have hsize := bytesRow_size s (grownCap w s.length 0 e) hge
   have hgr := grown1_drew w (.cells (bytesRow ⟨s.toArray⟩ (grownCap w s.length 0 e)) e ((bytesRow ⟨s.toArray⟩ (grownCap w s.length 0 e)).size, (bytesRow ⟨s.toArray⟩ (grownCap w s.length 0 e)).size + 1))
   have hbel : Below w.heap.size w (w.drew.alloc (.cells (bytesRow ⟨s.toArray⟩ (grownCap w s.length 0 e)) e ((bytesRow ⟨s.toArray⟩ (grownCap w s.length 0 e)).size, (bytesRow ⟨s.toArray⟩ (grownCap w s.length 0 e)).size + 1))) :=
    ⟨rfl, rfl, rfl, by rw [hgr.size]; omega, fun b hb => hgr.old b hb⟩
   obtain ⟨g1, g2⟩ := below_good hg (F' := fun b o => G.F b o ∨ (b = w.heap.size ∧ o < s.length)) hbel (fun _ _ h => .inl h) (fun b o hb => by
    rw [hgr.size]
    rcases hb with hb | ⟨hb, _⟩
    ·exact ⟨by have := hg.fin b o hb; omega, .inl hb⟩
    ·exact ⟨by omega, .inr (by omega)⟩)
   unfold Oper.wp
   rw [evBytes_run hT ho hsi hdi h1 h2 hb a w hv.1]
   refine hK _ _ _ g1 g2 ⟨?_, trivial⟩ (by simp)
   refine Rep.list_of (by simp) hge hle (fun e he => by obtain ⟨b, _, rfl⟩ := List.mem_map.1 he; rfl) (fun j hj => .inr ⟨rfl, by simp at hj; omega⟩) fun i el j c hi hj => ?_
   have hi' : s[i]?.map byteAV = some el := by simpa using hi
   cases hs : s[i]? with
   | none => rw [hs] at hi'; cases hi'
   | some b =>
    rw [hs] at hi'
    simp only [Option.map_some, Option.some.injEq] at hi'
    subst hi'
    cases j with
    | zero =>
     simp only [byteAV, AV.cells, List.getElem?_cons_zero, Option.some.injEq] at hj
     subst hj
     refine ⟨_, ?_, rfl, .int _ _ _ (u8_wrap b)⟩
     rw [cell_at hgr.new, Nat.mul_one, Nat.add_zero, Nat.zero_add]
     exact bytesRow_get s _ hge i b hs
    | succ j => simp [byteAV, AV.cells] at hj
  ·exact h.elim
 ·exact h.elim
end
def pureOp (T : Tab) (o : Oper) : Bool :=
 match o.op with
 | .move (.const (.slice none 0 0)) | .assign (.const (.slice none 0 0)) => false
 | .move _ | .assign _ | .pick .. | .binOp .. | .unOp .. | .load .. | .fieldAddr .. | .field .. | .indexAddr .. | .index .. | .lookup .. | .extract .. | .makeInterface .. | .makeFunc .. | .nilCheck _ | .build .. => true
 | .convert src dst _ => !strBytes T src dst || o.guard.isSome
 | .slice _ _ _ _ mx => mx.isNone
 | .call { callee := .builtin .len, .. } | .call { callee := .builtin .min, .. } | .call { callee := .builtin .max, .. } => true
 | .call { callee := .value _, .. } => o.guard.isSome
 | _ => false
def isStrT (T : Tab) (t : TypeId) : Bool := match T.at t with | some ti => (match ti.desc with | .string => true | _ => false) | none => false
def evP (C : Cx) (st : St) (g : Bool) (o : Oper) (k : AV → Option Nat → List Loc → Prop) : Prop :=
 match o.op with
 | .move x | .assign x => evMove C.T st g o.type x k
 | .pick c x y => evPick C.T st g o.type c x y k
 | .binOp op t x y _ => evBin C.T st g op t x y k
 | .unOp op t x => evUn C.T st g op t x k
 | .load t x => evLoad C.T st g t x k
 | .fieldAddr t x n => evFieldAddr C.T st g t x n k
 | .field t x n => evField C.T st g t x n k
 | .indexAddr t x i => evIndexAddr C.T st g t x i k
 | .index t x i => evIndex C.T st g t x i k
 | .extract x n => evExtract C.T st g x n k
 | .makeInterface t x => evMakeIface C.T st t x k
 | .makeFunc fn a b => evMakeFunc C.T st fn a.toList b.toList k
 | .nilCheck x => evNilCheck C.T st g x k
 | .build t ps => evBuild C.T st g t ps.toList k
 | .convert src dst x => match strBytes C.T src dst with
  | true => evBytes0 C.T st g src dst x k
  | false => match isIntT C.T src && isStrT C.T dst with
   | true => evRune C.T st g src dst x k
   | false => evConv C.T st g src dst x k
 | .slice t x lo hi none => evSlice C.T st g t x lo hi k
 | .call { callee := .builtin .len, args := ⟨[x]⟩, argTypes := ⟨[t]⟩ } => evLen C.T st g t x k
 | .call { callee := .builtin .min, args := ⟨[x, y]⟩, argTypes := ⟨[tx, ty]⟩ } => evMinMax C.T st g false tx ty x y k
 | .call { callee := .builtin .max, args := ⟨[x, y]⟩, argTypes := ⟨[tx, ty]⟩ } => evMinMax C.T st g true tx ty x y k
 | .call { callee := .value f, args := args, argTypes := tys } => evCallP C.E C.P C.T st g f (tys.toList.zip args.toList) k
 | _ => False
def evH (C : Cx) (st : St) (o : Oper) (k : KH) : Prop :=
 match o.op with
 | .move (.const (.slice none 0 0)) | .assign (.const (.slice none 0 0)) => evNil C.T st o.type k
 | .alloc t => match C.rows.contains (o.dst.getD 0) with
  | true => evAllocB C.T st t k
  | false => evAlloc C.T st t k
 | .box t x => evBox C.T st t x k
 | .range t x => evRange C.T st t x k
 | .next x true => evNext C.T st x k
 | .buildSlice t n ps => evBuildSlice C.T st t n ps.toList k
 | .convert src dst x => match C.rows.contains (o.dst.getD 0) with
  | true => evBytesRow C.T st src dst x k
  | false => evBytes C.T st src dst x k
 | .store t a v => evStore C.T st t a v k
 | .slice t x lo (some hi) (some mx) => evClip C.T st t x lo hi mx k
 | .call { callee := .builtin .append, args := ⟨[s, x]⟩, argTypes := ⟨[ts, tx]⟩ } => match C.rows.contains (o.dst.getD 0) with
  | true => evAppendRow C.T st ts tx s x k
  | false => evAppend C.T st ts tx s x k
 | .call { callee := .value f, args := args, argTypes := tys } => evCallH C.E C.P C.T st f (tys.toList.zip args.toList) k
 | _ => False
def opOk (T : Tab) (o : Oper) : Bool := constOk T o && (match o.op with | .call c => Nat.beq c.argTypes.toList.length c.args.toList.length | _ => true)
theorem evP_ok {C : Cx} (hT : TOk C.P C.T) {st : St} {g : Bool} {o : Oper} {k : AV → Option Nat → List Loc → Prop} (hok : opOk C.T o = true) (h : evP C st g o k) : Yld C.E C.P st o g k := by
 simp only [opOk, Bool.and_eq_true] at hok
 obtain ⟨hc, hl⟩ := hok
 unfold evP at h
 split at h
 ·rename_i x ho; exact evMove_ok hc (.inl ho) h
 ·rename_i x ho; exact evMove_ok hc (.inr ho) h
 ·rename_i ho; exact evPick_ok hc ho h
 ·rename_i ho; exact evBin_ok hT hc ho h
 ·rename_i ho; exact evUn_ok hc ho h
 ·rename_i ho; exact evLoad_ok hT hc ho h
 ·rename_i ho; exact evFieldAddr_ok hT hc ho h
 ·rename_i ho; exact evField_ok hT hc ho h
 ·rename_i ho; exact evIndexAddr_ok hT hc ho h
 ·rename_i ho; exact evIndex_ok hT hc ho h
 ·rename_i ho; exact evExtract_ok hc ho h
 ·rename_i ho; exact evMakeIface_ok hT hc ho h
 ·rename_i ho; exact evMakeFunc_ok hc ho h
 ·rename_i ho; exact evNilCheck_ok hc ho h
 ·rename_i ho; exact evBuild_ok hT hc ho h
 ·rename_i ho
  split at h
  ·exact evBytes0_ok hT hc ho h
  ·split at h
   ·exact evRune_ok hT hc ho h
   ·exact evConv_ok hT hc ho h
 ·rename_i ho; exact evSlice_ok hT hc ho h
 ·rename_i ho; exact evLen_ok hT hc ho h
 ·rename_i ho; exact evMinMax_ok (mx := false) hc ho h
 ·rename_i ho; exact evMinMax_ok (mx := true) hc ho h
 ·rename_i ho
  rw [ho] at hl
  exact evCallP_ok (Nat.eq_of_beq_eq_true hl) hc ho h
 ·exact h.elim
theorem evH_ok {C : Cx} (hT : TOk C.P C.T) {st : St} {o : Oper} {k : KH} (hok : opOk C.T o = true) (h : evH C st o k) : YldH C.E C.P st o k := by
 simp only [opOk, Bool.and_eq_true] at hok
 obtain ⟨hc, hl⟩ := hok
 unfold evH at h
 split at h
 ·rename_i ho; exact evNil_ok (.inl ho) h
 ·rename_i ho; exact evNil_ok (.inr ho) h
 ·rename_i ho
  split at h
  ·exact evAllocB_ok hT ho h
  ·exact evAlloc_ok hT ho h
 ·rename_i ho; exact evBox_ok hc ho h
 ·rename_i ho; exact evRange_ok hT hc ho h
 ·rename_i ho; exact evNext_ok (ty := 0) hc ho h
 ·rename_i ho; exact evBuildSlice_ok hT hc ho h
 ·rename_i ho
  split at h
  ·exact evBytesRow_ok hT hc ho h
  ·exact evBytes_ok hT hc ho h
 ·rename_i ho; exact evStore_ok hT hc ho h
 ·rename_i ho; exact evClip_ok hT hc ho h
 ·rename_i ho
  split at h
  ·exact evAppendRow_ok hT hc ho h
  ·exact evAppend_ok hT hc ho h
 ·rename_i ho
  rw [ho] at hl
  exact evCallH_ok (Nat.eq_of_beq_eq_true hl) hc ho h
 ·exact h.elim
inductive NormE (r : AV) (K : AV → Prop) : Prop
 | same (h : K r)
 | to (r' : AV) (he : Wf r → r = r') (h : K r')
def normE (b : Bool) (r : AV) (K : AV → Prop) : Prop :=
 match b with
 | true => NormE r K
 | false => K r
theorem normE_ok {b : Bool} {r : AV} {K : AV → Prop} (h : normE b r K) : ∃ r', K r' ∧ (Wf r → r = r') := by
 cases b with
 | false => exact ⟨r, h, fun _ => rfl⟩
 | true =>
  cases h with
  | same h => exact ⟨r, h, fun _ => rfl⟩
  | to r' he h => exact ⟨r', h, he⟩
def normOp (T : Tab) (o : Oper) : Bool :=
 match o.op with
 | .slice .. | .buildSlice .. => true
 | .call { callee := .builtin .len, .. } | .call { callee := .builtin .append, .. } => true
 | .binOp .add t _ _ _ => (match T.at t with | some ti => (match ti.desc with | .string => true | _ => false) | none => false)
 | .load t _ => (match T.at t with | some ti => isAggD ti.desc | none => false)
 | _ => false
theorem HFact.norm {E : Env} {P : Program} {st : St} {o : Oper} {r r' : AV} {tag : Option Nat} {H : List AObj} {k : List Nat} {N W : List Loc} (h : HFact E P st o r tag H k N W) (he : Wf r → r = r') : HFact E P st o r' tag H k N W :=
 ⟨h.noslot, h.same, fun B G w a hg hN K Q hK => h.run B G w a hg hN K Q fun G' w' v h1 h2 h3 h4 => hK G' w' v h1 h2 (by have := he h3.1.wf; rw [← this]; exact h3) h4⟩
def callV (o : Oper) : Bool :=
 match o.op with
 | .call { callee := .value _, .. } => true
 | _ => false
def evOp (C : Cx) (ops : Array Oper) (o : Oper) (st : St) (K : St → List Loc → List Loc → Prop) : Prop :=
 match o.guard with
 | none => match pureOp C.T o with
  | true => evP C st true o fun r tag N => normE (normOp C.T o) r fun r => K (st.put o.dst r tag st.H st.k) N (dstW o.dst ++ [])
  | false => evH C st o fun r tag H k N W => normE (normOp C.T o) r fun r => K (st.put o.dst r tag H k) N (dstW o.dst ++ W)
 | some _ => guardE ops o st fun g => match pureOp C.T o && !(callV o && C.rows.contains (o.dst.getD 0)) with
  | true => evP C st g o fun r _ N => normE (normOp C.T o) r fun r => K (st.put o.dst (.cond g r) none st.H st.k) (guardN ops o ++ N) (dstW o.dst ++ [])
  | false => (g = true → evH C st o fun r tag H k N W => normE (normOp C.T o) r fun r => K (st.put o.dst r tag H k) (guardN ops o ++ N) (dstW o.dst ++ W)) ∧
    (g = false → K (st.put o.dst (.cond false .any) none st.H st.k) (guardN ops o) (dstW o.dst ++ []))
theorem evOp_ok {C : Cx} (hT : TOk C.P C.T) {ops : Array Oper} {st : St} {o : Oper} {K : St → List Loc → List Loc → Prop} (hok : opOk C.T o = true) (h : evOp C ops o st K) :
  ∃ st' N W, K st' N W ∧ StepFact C.E C.P ops o st st' N W := by
 unfold evOp at h
 split at h
 ·rename_i hg
  have hgn : guardN ops o = [] := by simp [guardN, guardT, hg]
  have hw : ∀ (G : Gh) (w : World) (a : Act), (∀ l, l ∈ guardN ops o → RepL G w a l st) → Region.wanted o (yielded ops a.tmps) = true := fun _ _ _ _ => by simp [Region.wanted, hg]
  split at h
  ·obtain ⟨r, tag, N, h, hf⟩ := evP_ok hT hok h
   obtain ⟨r', h, he⟩ := normE_ok h
   have := step_do hw ((hf rfl).norm he)
   rw [hgn] at this
   exact ⟨_, _, _, h, this⟩
  ·obtain ⟨r, tag, H, k, N, W, h, hf⟩ := evH_ok hT hok h
   obtain ⟨r', h, he⟩ := normE_ok h
   have := step_do hw (hf.norm he)
   rw [hgn] at this
   exact ⟨_, _, _, h, this⟩
 ·obtain ⟨g, h, _, hw⟩ := guardE_ok h
  split at h
  ·obtain ⟨r, tag, N, h, hf⟩ := evP_ok hT hok h
   obtain ⟨r', h, he⟩ := normE_ok h
   exact ⟨_, _, _, h, step_cond hw fun hgt => ⟨tag, (hf hgt).norm he⟩⟩
  ·cases g with
   | true =>
    obtain ⟨r, tag, H, k, N, W, h, hf⟩ := evH_ok hT hok (h.1 rfl)
    obtain ⟨r', h, he⟩ := normE_ok h
    exact ⟨_, _, _, h, step_do hw (hf.norm he)⟩
   | false => exact ⟨_, _, _, h.2 rfl, step_skip hw _⟩
def evOps (C : Cx) (ops : Array Oper) : List Oper → St → List (List Loc × List Loc) → (St → List (List Loc × List Loc) → Prop) → Prop
 | [], st, ft, K => K st ft
 | o :: rest, st, ft, K => evOp C ops o st fun st' N W => evOps C ops rest st' (ft ++ [(N, W)]) K
theorem evOps_ok {C : Cx} (hT : TOk C.P C.T) {ops : Array Oper} : ∀ (l : List Oper) (st : St) (ft : List (List Loc × List Loc)) (K : St → List (List Loc × List Loc) → Prop), l.all (opOk C.T) = true → evOps C ops l st ft K →
  ∃ st' ft', K st' (ft ++ ft') ∧ Chain C.E C.P ops l st ft' st' := by
 intro l
 induction l with
 | nil => intro st ft K _ h; exact ⟨st, [], by rw [List.append_nil]; exact h, .nil st⟩
 | cons o rest ih =>
  intro st ft K hok h
  simp only [List.all_cons, Bool.and_eq_true] at hok
  obtain ⟨st1, N, W, h, hf⟩ := evOp_ok hT hok.1 h
  obtain ⟨st', ft', hk, hch⟩ := ih _ _ _ hok.2 h
  exact ⟨st', (N, W) :: ft', by simpa using hk, .cons _ _ _ _ _ _ _ _ hf hch⟩
end Go.Pm
namespace Go.Pm
open Go Go.RowKit
set_option linter.unusedVariables false
set_option linter.unusedSimpArgs false
def Gho (E : Env) (nb nk : Nat) (st st' : St) : Prop := ∀ (B : Base) (G : Gh) (w : World) (a : Act), B.nb = nb → B.nk = nk → Conc E B G w a st → ∃ G', Conc E B G' w a st'
theorem Gho.refl (E : Env) (nb nk : Nat) (st : St) : Gho E nb nk st st := fun _ G _ _ _ _ h => ⟨G, h⟩
theorem Gho.trans {E : Env} {nb nk : Nat} {a b c : St} (h : Gho E nb nk a b) (h' : Gho E nb nk b c) : Gho E nb nk a c := fun B G w x e1 e2 hx =>
 let ⟨_, h1⟩ := h B G w x e1 e2 hx
 h' B _ w x e1 e2 h1
structure Br (t : Bool) (A B : Prop) : Prop where
 yes : t = true → A
 no : t = false → B
def evReg (C : Cx) (ops : Array Oper) (draw : Bool) (st : St) (K : St → Prop) : Prop :=
 evOps C ops ops.toList st [] fun st' ft => match draw with
  | false => K st'
  | true => ordOk ops.toList ft = true ∧ K st'
structure LoopW (E : Env) (nb nk : Nat) (body : (Exit → St → Prop) → St → Prop) (K : Exit → St → Prop) (st : St) (α : Type) (S : α → St) (μ : α → Nat) (x0 : α) : Prop where
 start : Gho E nb nk st (S x0)
 round : ∀ x, body (fun e s => match e with | .normal => ∃ x', μ x' < μ x ∧ Gho E nb nk s (S x') | e => K e s) (S x)
def LoopE (E : Env) (nb nk : Nat) (body : (Exit → St → Prop) → St → Prop) (K : Exit → St → Prop) (st : St) : Prop := ∃ (α : Type) (S : α → St) (μ : α → Nat) (x0 : α), LoopW E nb nk body K st α S μ x0
inductive SeqN (E : Env) (nb nk : Nat) (kb : St → Prop) (s : St) : Prop
 | go (h : kb s)
 | via (s' : St) (hg : Gho E nb nk s s') (h : kb s')
inductive SeqJ (E : Env) (nb nk : Nat) (ea : (Exit → St → Prop) → St → Prop) (kb : St → Prop) (K : Exit → St → Prop) (st : St) : Prop
 | go (h : ea (fun e s => match e with | .normal => SeqN E nb nk kb s | e => K e s) st)
 | join (s' : St) (h1 : ea (fun e s => match e with | .normal => Gho E nb nk s s' | e => K e s) st) (h2 : kb s')
def evK (C : Cx) : Code → (Exit → St → Prop) → St → Prop
 | .skip, K, st => K .normal st
 | .region _ ops draw, K, st => evReg C ops draw st fun st' => K .normal st'
 | .seq a b, K, st => SeqJ C.E C.nb C.nk (evK C a) (evK C b K) K st
 | .cond c a b, K, st => match evV C.T st 0 c with
  | .bool t => Br t (evK C a K st) (evK C b K st)
  | _ => False
 | .block id a, K, st => evK C a (fun e s => match e with | .exit i => (match Nat.beq i id with | true => K .normal s | false => K (.exit i) s) | e => K e s) st
 | .loop a, K, st => LoopE C.E C.nb C.nk (evK C a) K st
 | .exit id, K, st => K (.exit id) st
 | .ret, K, st => K .ret st
 | .scope a, K, st => evK C a (fun e s => match e with | .goto _ => False | e => K e s) st
 | .label _, K, st => K .normal st
 | _, _, _ => False
def codeOk (T : Tab) (nt : Nat) : Code → Bool
 | .region _ ops draw => dstsOk nt ops && ops.toList.all (opOk T) && (!draw || edgesOk ops.toList)
 | .seq a b => codeOk T nt a && codeOk T nt b
 | .cond c a b => cOk T 0 c && codeOk T nt a && codeOk T nt b
 | .block _ a => codeOk T nt a
 | .loop a => codeOk T nt a
 | .scope a => codeOk T nt a
 | _ => true
theorem least_of {p : Nat → Prop} (h : ∃ n, p n) : ∃ n, p n ∧ ∀ m, p m → n ≤ m := by
 obtain ⟨n, hn⟩ := h
 induction n using Nat.strongRecOn with
 | _ n ih =>
  by_cases hm : ∃ m, m < n ∧ p m
  ·obtain ⟨m, h1, h2⟩ := hm
   exact ih m h1 h2
  ·exact ⟨n, hn, fun m h => by
    rcases Nat.lt_or_ge m n with h1 | h1
    ·exact absurd ⟨m, h1, h⟩ hm
    ·exact h1⟩
noncomputable def leastN (p : Nat → Prop) : Nat := open Classical in if h : ∃ n, p n then Classical.choose (least_of h) else 0
theorem leastN_spec {p : Nat → Prop} (h : ∃ n, p n) : p (leastN p) ∧ ∀ m, p m → leastN p ≤ m := by
 unfold leastN
 rw [dif_pos h]
 exact Classical.choose_spec (least_of h)
def Post (E : Env) (B : Base) (K : Exit → St → Prop) : Exit → Act → World → Prop := fun e a w => ∃ st G, K e st ∧ Conc E B G w a st
theorem evK_ok {C : Cx} (hT : TOk C.P C.T) (hm : C.P.follows .mixedOrders = true) {B : Base} (hnb : B.nb = C.nb) (hnk : B.nk = C.nk) : ∀ (c : Code) (K : Exit → St → Prop) (st : St), codeOk C.T B.nt c = true → evK C c K st →
  ∀ (G : Gh) (w : World) (a : Act), Conc C.E B G w a st → c.wp C.P (Post C.E B K) a w := by
 intro c
 induction c with
 | skip => intro K st _ h G w a hst; exact wp_skip ⟨st, G, h, hst⟩
 | region id ops draw =>
  intro K st hok h G w a hst
  simp only [codeOk, Bool.and_eq_true] at hok
  obtain ⟨⟨h1, h2⟩, h3⟩ := hok
  simp only [evK, evReg] at h
  obtain ⟨st', ft, hk, hch⟩ := evOps_ok hT _ _ _ _ h2 h
  simp only [List.nil_append] at hk
  refine wp_region_chain hm h1 hch (fun hd => ?_) hst fun G' w' a' hst' => ?_
  ·subst hd
   simp only [Bool.not_true, Bool.false_or] at h3
   exact ⟨h3, hk.1⟩
  ·cases draw with
   | false => exact ⟨st', G', hk, hst'⟩
   | true => exact ⟨st', G', hk.2, hst'⟩
 | seq x y ihx ihy =>
  intro K st hok h G w a hst
  simp only [codeOk, Bool.and_eq_true] at hok
  simp only [evK] at h
  cases h with
  | go h =>
   refine wp_seq (wp_mono (ihx _ _ hok.1 h G w a hst) fun e a' w' hp => ?_)
   obtain ⟨st', G', hk, hst'⟩ := hp
   cases e with
   | normal =>
    cases hk with
    | go hk => exact ihy _ _ hok.2 hk G' w' a' hst'
    | via s' hg hk =>
     obtain ⟨G2, hst2⟩ := hg B G' w' a' hnb hnk hst'
     exact ihy _ _ hok.2 hk G2 w' a' hst2
   | exit i => exact ⟨st', G', hk, hst'⟩
   | goto l => exact ⟨st', G', hk, hst'⟩
   | ret => exact ⟨st', G', hk, hst'⟩
   | panic ch => exact ⟨st', G', hk, hst'⟩
   | outgrown => exact ⟨st', G', hk, hst'⟩
  | join s1 h h2 =>
   refine wp_seq (wp_mono (ihx _ _ hok.1 h G w a hst) fun e a' w' hp => ?_)
   obtain ⟨st', G', hk, hst'⟩ := hp
   cases e with
   | normal =>
    obtain ⟨G2, hst2⟩ := hk B G' w' a' hnb hnk hst'
    exact ihy _ _ hok.2 h2 G2 w' a' hst2
   | exit i => exact ⟨st', G', hk, hst'⟩
   | goto l => exact ⟨st', G', hk, hst'⟩
   | ret => exact ⟨st', G', hk, hst'⟩
   | panic ch => exact ⟨st', G', hk, hst'⟩
   | outgrown => exact ⟨st', G', hk, hst'⟩
 | cond x a b iha ihb =>
  intro K st hok h G w ac hst
  simp only [codeOk, Bool.and_eq_true] at hok
  obtain ⟨⟨h1, h2⟩, h3⟩ := hok
  simp only [evK] at h
  split at h
  ·rename_i t ht
   have hr := (evV_ok (T := C.T) hst.good h1 fun l _ => hst.rep l).1
   rw [ht] at hr
   generalize hv : ac.eval x = v at hr
   cases hr
   cases t with
   | true => exact wp_cond hv (iha _ _ h2 (h.yes rfl) G w ac hst)
   | false => exact wp_cond hv (ihb _ _ h3 (h.no rfl) G w ac hst)
  ·exact h.elim
 | block id x ih =>
  intro K st hok h G w a hst
  refine wp_block (wp_mono (ih _ _ hok h G w a hst) fun e a' w' hp => ?_)
  obtain ⟨st', G', hk, hst'⟩ := hp
  cases e with
  | exit i =>
   simp only [Exit.inBlock]
   dsimp only at hk
   split at hk
   ·rename_i hb
    rw [if_pos (Nat.eq_of_beq_eq_true hb)]
    exact ⟨st', G', hk, hst'⟩
   ·rename_i hb
    rw [if_neg (Nat.ne_of_beq_eq_false hb)]
    exact ⟨st', G', hk, hst'⟩
  | normal => exact ⟨st', G', hk, hst'⟩
  | goto l => exact ⟨st', G', hk, hst'⟩
  | ret => exact ⟨st', G', hk, hst'⟩
  | panic ch => exact ⟨st', G', hk, hst'⟩
  | outgrown => exact ⟨st', G', hk, hst'⟩
 | loop x ih =>
  intro K st hok h G w a hst
  obtain ⟨α, S, μ, x0, hs, hr⟩ := h
  obtain ⟨G0, h0⟩ := hs B G w a hnb hnk hst
  -- the measure: the least that a fitting member has
  let fits : Act → World → Nat → Prop := fun a w n => ∃ y G, μ y = n ∧ Conc C.E B G w a (S y)
  refine wp_loop (fun a w => ∃ n, fits a w n) (fun a w => leastN (fits a w)) ⟨_, x0, G0, rfl, h0⟩ fun a w hI => ?_
  obtain ⟨⟨y, Gy, hy, hcy⟩, _⟩ := leastN_spec hI
  refine wp_mono (ih _ _ hok (hr y) Gy w a hcy) fun e a' w' hp => ?_
  obtain ⟨st', G', hk, hst'⟩ := hp
  cases e with
  | normal =>
   obtain ⟨y', hlt, hg⟩ := hk
   obtain ⟨G2, h2⟩ := hg B G' w' a' hnb hnk hst'
   have hf : fits a' w' (μ y') := ⟨y', G2, rfl, h2⟩
   exact ⟨⟨_, hf⟩, Nat.lt_of_le_of_lt ((leastN_spec ⟨_, hf⟩).2 _ hf) (by show μ y' < leastN (fits a w); rw [← hy]; exact hlt)⟩
  | exit i => exact ⟨st', G', hk, hst'⟩
  | goto l => exact ⟨st', G', hk, hst'⟩
  | ret => exact ⟨st', G', hk, hst'⟩
  | panic ch => exact ⟨st', G', hk, hst'⟩
  | outgrown => exact ⟨st', G', hk, hst'⟩
 | exit id => intro K st _ h G w a hst; exact wp_exit ⟨st, G, h, hst⟩
 | ret => intro K st _ h G w a hst; exact wp_ret ⟨st, G, h, hst⟩
 | rangeFunc _ _ _ _ _ _ => intro K st _ h; exact h.elim
 | scope x ih =>
  intro K st hok h G w a hst
  refine wp_scope_straight (wp_mono (ih _ _ hok h G w a hst) fun e a' w' hp => ?_)
  obtain ⟨st', G', hk, hst'⟩ := hp
  cases e with
  | goto l => exact hk.elim
  | normal => exact ⟨st', G', hk, hst'⟩
  | exit i => exact ⟨st', G', hk, hst'⟩
  | ret => exact ⟨st', G', hk, hst'⟩
  | panic c => exact ⟨st', G', hk, hst'⟩
  | outgrown => exact ⟨st', G', hk, hst'⟩
 | label _ => intro K st _ h G w a hst; exact wp_label ⟨st, G, h, hst⟩
 | goto _ => intro K st _ h; exact h.elim
 | refuse _ => intro K st _ h; exact h.elim
def cellE (T : Tab) (st : St) (a : Nat) (ty : TypeId) (k : AV → Prop) : Prop :=
 match st.s a, T.at ty with
 | .ptr id off, some ti => optE st.H[id]? fun ob => match ob with
  | .cells _ cs _ => (match isAggD ti.desc with
   | true => (0 < ti.size ∧ off + ti.size ≤ cs.length) ∧ ∃ r, AV.agg ((cs.drop off).take ti.size) = r ∧ k r
   | false => optE cs[off]? k)
  | _ => False
 | _, _ => False
def resE (T : Tab) (st : St) : List ResultVar → (List AV → Prop) → Prop
 | [], k => k []
 | .tmp t :: rs, k => resE T st rs fun l => k (st.s t :: l)
 | .cell a ty :: rs, k => cellE T st a ty fun v => resE T st rs fun l => k (v :: l)
def resV (tmps : Array Value) : ResultVar → Sem Value
 | .tmp t => pure (tmps.getD t undef)
 | .cell b ty => do loadVar ty (← asAddr (tmps.getD b undef))
def packR : List AV → AV
 | [x] => x
 | l => .tup l
section
variable {E : Env} {P : Program} {T : Tab} {st : St} {B : Base} {G : Gh} {w : World} {a : Act}
theorem cellE_ok (hT : TOk P T) (hst : Conc E B G w a st) {t : Nat} {ty : TypeId} {k : AV → Prop} (h : cellE T st t ty k) :
  ∃ r, k r ∧ ∃ v, (do loadVar ty (← asAddr (a.tmps.getD t undef)) : Sem Value).run P w = .ok v w ∧ Rep G.F w G.ι v r := by
 unfold cellE at h
 split at h
 ·rename_i id off ti hs hti
  have hf := hT _ _ hti
  obtain ⟨ob, hob, h⟩ := optE_ok h
  split at h
  ·rename_i tt cs tg
   have r1 := (hst.rep (.slot t)).1
   rw [hs] at r1
   have hobj := hst.rep (.obj id)
   simp only [RepL, hob] at hobj
   generalize hv : a.tmps.getD t undef = vx at *
   cases r1 with
   | ptr _ _ _ g' hι =>
   split at h
   ·rename_i ha
    obtain ⟨⟨hpos, hle⟩, rr, hrr, h⟩ := h
    subst hrr
    obtain ⟨gg, i1, i2, i3, vals, fz, i4, i5, i6, i7⟩ := hobj.resolve_left (by rintro rfl; simp at hle; omega)
    rw [i1] at hι
    injection hι with hι
    subst hι
    have hsz : cs.length ≤ vals.toList.length := by simpa using i6
    have hl : ((vals.toList.drop off).take ti.size).length = ti.size := by simp; omega
    refine ⟨_, h, .agg ((vals.toList.drop off).take ti.size).toArray, ?_, ?_⟩
    ·have hload := run_loadCells_list (P := P) w ⟨gg, off, none⟩ ((vals.toList.drop off).take ti.size) (fun j v hj => by
      rw [List.getElem?_take] at hj
      split at hj
      ·rw [List.getElem?_drop] at hj
       rw [add_plain]
       simpa [World.cell?, i4] using hj
      ·cases hj)
     rw [hl] at hload
     simp only [asAddr, Sem.run_bind, Sem.run_pure, Result.andThen_ok, loadVar, hf.run_agg, ha, if_true, hf.run_size, hload]
    ·refine .agg _ _ _ (by rw [hl]; simp; omega) (fun v hv => ?_) fun i v c hi hc => ?_
     ·obtain ⟨j, hj, hjv⟩ := List.getElem_of_mem hv
      have hj' : j < ti.size := by rw [hl] at hj; exact hj
      have hjv2 : vals[off + j]? = some v := by
       have := List.getElem?_eq_getElem hj
       rw [hjv, List.getElem?_take, if_pos hj', List.getElem?_drop, Array.getElem?_toList] at this
       exact this
      obtain ⟨u, u1, u2, _⟩ := i7 (off + j) _ (List.getElem?_eq_getElem (by omega))
      rw [hjv2] at u1
      injection u1 with u1
      subst u1
      exact u2
     ·rw [List.getElem?_take] at hi hc
      split at hi
      ·rw [if_pos (by assumption), List.getElem?_drop] at hc
       rw [List.getElem?_drop, Array.getElem?_toList] at hi
       obtain ⟨u, u1, _, u3⟩ := i7 _ _ hc
       rw [hi] at u1
       injection u1 with u1
       subst u1
       exact u3.1
      ·cases hi
   ·rename_i ha
    obtain ⟨c, hcs, h⟩ := optE_ok h
    obtain ⟨gg, i1, i2, i3, vals, fz, i4, i5, i6, i7⟩ := hobj.resolve_left (by rintro rfl; simp at hcs)
    rw [i1] at hι
    injection hι with hι
    subst hι
    obtain ⟨u, u1, _, u3⟩ := i7 _ _ hcs
    refine ⟨c, h, u, ?_, u3.1⟩
    have hcell : w.cell? ⟨gg, off, none⟩ = some u := by simpa [World.cell?, i4] using u1
    simp only [asAddr, Sem.run_bind, Sem.run_pure, Result.andThen_ok, loadVar, hf.run_agg, ha, Bool.false_eq_true, if_false, run_load, hcell]
  ·exact h.elim
 ·exact h.elim
theorem resE_ok (hT : TOk P T) (hst : Conc E B G w a st) : ∀ (rs : List ResultVar) (k : List AV → Prop), resE T st rs k → ∃ l, k l ∧ ∃ vs : List Value, (rs.mapM (resV a.tmps)).run P w = .ok vs w ∧ vs.length = l.length ∧ ∀ (i : Nat) (v : Value) (c : AV), vs[i]? = some v → l[i]? = some c → Rep G.F w G.ι v c := by
 intro rs
 induction rs with
 | nil => intro k h; exact ⟨[], h, [], by simp, rfl, by simp⟩
 | cons r rs ih =>
  intro k h
  cases r with
  | tmp t =>
   obtain ⟨l, hk, vs, hrun, hl, hr⟩ := ih _ h
   refine ⟨_, hk, a.tmps.getD t undef :: vs, ?_, by simp [hl], fun i v c hv hc => ?_⟩
   ·simp only [List.mapM_cons, resV, Sem.run_bind, Sem.run_pure, Result.andThen_ok, hrun]
   ·cases i with
    | zero =>
     simp only [List.getElem?_cons_zero, Option.some.injEq] at hv hc
     subst hv hc
     exact (hst.rep (.slot t)).1
    | succ i => exact hr i v c (by simpa using hv) (by simpa using hc)
  | cell b ty =>
   obtain ⟨x, h, v0, hrun0, hr0⟩ := cellE_ok hT hst h
   obtain ⟨l, hk, vs, hrun, hl, hr⟩ := ih _ h
   refine ⟨_, hk, v0 :: vs, ?_, by simp [hl], fun i v c hv hc => ?_⟩
   ·simp only [List.mapM_cons, resV, Sem.run_bind, Sem.run_pure, Result.andThen_ok, hrun]
    simp only [Sem.run_bind] at hrun0
    rw [hrun0]
    simp only [Result.andThen_ok, hrun]
   ·cases i with
    | zero =>
     simp only [List.getElem?_cons_zero, Option.some.injEq] at hv hc
     subst hv hc
     exact hr0
    | succ i => exact hr i v c (by simpa using hv) (by simpa using hc)
end
inductive Frz (H : List AObj) : AV → AV → Prop
 | pure (a : AV) (h : Pu a) : Frz H a a
 | ptr (id off : Nat) (t : TypeId) (cs : List AV) (tg : List (Nat × Nat)) (cs' : List AV) (h : H[id]? = some (.cells t cs tg)) (hl : cs'.length = cs.length - off) (hne : 0 < cs'.length)
   (hc : ∀ (j : Nat) (c c' : AV), cs[off + j]? = some c → cs'[j]? = some c' → Frz H c c') : Frz H (.ptr id off) (.iptr cs')
 | row (id off len : Nat) (t : TypeId) (cs : List AV) (tg : List (Nat × Nat)) (sz : Nat) (xs : List AV) (h : H[id]? = some (.cells t cs tg)) (hl : xs.length = len) (hsz : ∀ e, e ∈ xs → e.cells.length = sz) (hle : off + len * sz ≤ cs.length) (hs : 0 < sz)
   (hc : ∀ (i : Nat) (e : AV) (j : Nat) (c c' : AV), xs[i]? = some e → e.cells[j]? = some c' → cs[off + (i * sz + j)]? = some c → Frz H c c') : Frz H (.row id off len) (.list sz xs)
 | fn (f : FuncId) (a b a' b' : List AV) (hl : a'.length = a.length) (hl' : b'.length = b.length) (ha : ∀ (j : Nat) (c c' : AV), a[j]? = some c → a'[j]? = some c' → Frz H c c') (hb : ∀ (j : Nat) (c c' : AV), b[j]? = some c → b'[j]? = some c' → Frz H c c') : Frz H (.fn f a b) (.fn f a' b')
 | agg (a a' : List AV) (hl : a'.length = a.length) (ha : ∀ (j : Nat) (c c' : AV), a[j]? = some c → a'[j]? = some c' → Frz H c c') : Frz H (.agg a) (.agg a')
 | tup (a a' : List AV) (hl : a'.length = a.length) (ha : ∀ (j : Nat) (c c' : AV), a[j]? = some c → a'[j]? = some c' → Frz H c c') : Frz H (.tup a) (.tup a')
def frzF (G : Gh) (H : List AObj) (b o : Nat) : Prop := G.F b o ∨ ∃ id t cs tg, H[id]? = some (.cells t cs tg) ∧ G.ι id = some b ∧ o < cs.length
theorem Frz.rep {E : Env} {B : Base} {G : Gh} {w : World} {a : Act} {st : St} (hst : Conc E B G w a st) {x x' : AV} (h : Frz st.H x x') : ∀ v, Rep G.F w G.ι v x → Rep (frzF G st.H) w (fun _ => none) v x' := by
 induction h with
 | pure x hp => intro v hr; exact (hr.pure hp (fun _ => none)).mono (fun _ _ h => .inl h) (fun _ _ _ => rfl) _ (fun _ _ h => h)
 | ptr id off t cs tg cs' hid hl hne hc ih =>
  intro v hr
  cases hr with
  | ptr _ _ _ g hι =>
  have hobj := hst.rep (.obj id)
  simp only [RepL, hid] at hobj
  obtain ⟨g', i1, i2, i3, vals, fz, i4, i5, i6, i7⟩ := hobj.resolve_left (by intro h0; rw [h0] at hl; simp only [List.length_nil] at hl; omega)
  rw [i1] at hι
  injection hι with hι
  subst hι
  refine .iptr _ g' off cs' (fun j => vals.getD (off + j) undef) (fun j hj => .inr ⟨id, t, cs, tg, hid, i1, by omega⟩) (fun j c' hc' => ?_) (fun j c' hc' => ?_)
  all_goals
   have hjl := (List.getElem?_eq_some_iff.1 hc').1
   have hcj : cs[off + j]? = some cs[off + j] := List.getElem?_eq_getElem (by omega)
   obtain ⟨u, u1, u2, u3⟩ := i7 _ _ hcj
   have hget : vals.getD (off + j) undef = u := by rw [Array.getD_eq_getD_getElem?, u1]; rfl
  ·rw [hget, cell_at i4]; exact ⟨u1, u2⟩
  ·simp only [hget]; exact ih j _ c' hcj hc' u u3.1
 | row id off len t cs tg sz xs hid hl hsz hle hs hc ih =>
  intro v hr
  cases hr with
  | row0 _ _ _ cap a0 hm =>
   have : xs = [] := List.eq_nil_of_length_eq_zero hl
   subst this
   exact .empty _ _ _ _ hm
  | row _ _ _ _ cap g hι hcap hm =>
  have hobj := hst.rep (.obj id)
  simp only [RepL, hid] at hobj
  by_cases hlen : len = 0
  ·subst hlen
   have : xs = [] := List.eq_nil_of_length_eq_zero hl
   subst this
   exact .empty _ _ _ _ hm
  have hpos : 0 < len * sz := Nat.mul_pos (by omega) hs
  obtain ⟨g', i1, i2, i3, vals, fz, i4, i5, i6, i7⟩ := hobj.resolve_left (by intro h0; rw [h0] at hle; simp only [List.length_nil] at hle; omega)
  rw [i1] at hι
  injection hι with hι
  subst hι
  refine Rep.list_of hl.symm hcap hm hsz (fun j hj => .inr ⟨id, t, cs, tg, hid, i1, by rw [hl] at hj; omega⟩) fun i e j c' hi hj => ?_
  have hil := (List.getElem?_eq_some_iff.1 hi).1
  have hjl : j < sz := by rw [← hsz e (List.mem_of_getElem? hi)]; exact (List.getElem?_eq_some_iff.1 hj).1
  have hlt : i * sz + j < len * sz := by
   have h1 : (i + 1) * sz ≤ len * sz := Nat.mul_le_mul_right _ (by omega)
   rw [Nat.add_mul] at h1
   omega
  have hcj : cs[off + (i * sz + j)]? = some cs[off + (i * sz + j)] := List.getElem?_eq_getElem (by omega)
  obtain ⟨u, u1, u2, u3⟩ := i7 _ _ hcj
  exact ⟨u, by rw [cell_at i4]; exact u1, u2, ih i e j _ c' hi hj hcj u u3.1⟩
 | fn f a b a' b' hl hl' ha hb iha ihb =>
  intro v hr
  cases hr with
  | fn _ _ fs cs _ _ k1 k2 r1 r2 =>
  refine .fn _ _ _ _ _ _ (by omega) (by omega) (fun i v c hv hc => ?_) (fun i v c hv hc => ?_)
  ·have hil := (List.getElem?_eq_some_iff.1 hc).1
   have hai : a[i]? = some a[i] := List.getElem?_eq_getElem (by omega)
   exact iha i _ c hai hc v (r1 i v _ hv hai)
  ·have hil := (List.getElem?_eq_some_iff.1 hc).1
   have hai : b[i]? = some b[i] := List.getElem?_eq_getElem (by omega)
   exact ihb i _ c hai hc v (r2 i v _ hv hai)
 | agg a a' hl ha iha =>
  intro v hr
  cases hr with
  | agg _ vs _ k1 ko r1 =>
  refine .agg _ _ _ (by omega) ko (fun i v c hv hc => ?_)
  have hil := (List.getElem?_eq_some_iff.1 hc).1
  have hai : a[i]? = some a[i] := List.getElem?_eq_getElem (by omega)
  exact iha i _ c hai hc v (r1 i v _ hv hai)
 | tup a a' hl ha iha =>
  intro v hr
  cases hr with
  | tup _ vs _ k1 r1 =>
  refine .tup _ _ _ (by omega) (fun i v c hv hc => ?_)
  have hil := (List.getElem?_eq_some_iff.1 hc).1
  have hai : a[i]? = some a[i] := List.getElem?_eq_getElem (by omega)
  exact iha i _ c hai hc v (r1 i v _ hv hai)
def AV.puR : AV → Bool
 | .tup cs => cs.all AV.puD
 | a => a.puD
theorem AV.puR_ok {a : AV} (h : a.puR = true) : Pu a := by
 unfold AV.puR at h
 split at h
 ·exact .tup _ fun c hc => AV.puD_ok (List.all_eq_true.1 h c hc)
 ·exact AV.puD_ok h
inductive RetE (T : Tab) (rs : List ResultVar) (st : St) (Q : AV → Bool → Prop) : Prop
 | plain (h : resE T st rs fun l => (packR l).puR = true ∧ Q (packR l) false) : RetE T rs st Q
 | frz (h : resE T st rs fun l => ∃ r, Frz st.H (packR l) r ∧ Q r false) : RetE T rs st Q
 | own (t i : Nat) (hr : rs = [.tmp t]) (hg : st.g t = some i) (hk : (st.k[i]?.any (Nat.blt 0)) = true) (hs : (st.s t).isList = true) (h : Q (st.s t) true) : RetE T rs st Q
def St.init (args : List AV) : St := { s := fun t => args.getD t .any, g := fun _ => none, H := [], k := [] }
end Go.Pm
namespace Go.Pm
open Go Go.RowKit
set_option linter.unusedVariables false
set_option linter.unusedSimpArgs false
def EndK (T : Tab) (rs : List ResultVar) (Q : AV → Bool → Prop) : Exit → St → Prop
 | .ret, st | .normal, st => RetE T rs st Q
 | _, _ => False
def packV : List Value → Value
 | [v] => v
 | l => .tuple l.toArray
theorem run_results {P : Program} (fn : Func) (tmps : Array Value) (w : World) {vs : List Value} (h : (fn.results.toList.mapM (resV tmps)).run P w = .ok vs w) :
  (results fn tmps).run P w = .ok (packV vs) w := by
 have e : results fn tmps = (do let vs ← fn.results.mapM (resV tmps); pure (if h : vs.size = 1 then vs[0] else .tuple vs)) := by
  unfold results
  congr 1
 rw [e]
 simp only [Array.mapM_eq_mapM_toList, Sem.run_bind, Sem.run_map, h, Result.andThen_ok, Sem.run_pure]
 match vs with
 | [] => rfl
 | [v] => rfl
 | a :: b :: r => rfl
theorem pack_rep {F : Nat → Nat → Prop} {w : World} {ι : Nat → Option Nat} {vs : List Value} {l : List AV} (hl : vs.length = l.length) (h : ∀ (i : Nat) (v : Value) (c : AV), vs[i]? = some v → l[i]? = some c → Rep F w ι v c) :
  Rep F w ι (packV vs) (packR l) := by
 match vs, l, hl with
 | [], [], _ => exact .tup _ _ _ rfl h
 | [v], [a], _ => exact h 0 v a rfl rfl
 | x :: y :: vs, a :: b :: l, hl => exact .tup _ _ _ hl h
theorem FnR.of_ev {E : Env} {P : Program} {T : Tab} {rows : List Nat} (hT : TOk P T) (hm : P.follows .mixedOrders = true) {f : FuncId} {fn : Func} {code : Code} {args : List AV} {r : AV} {own : Bool}
  (hf : P.funcs[f]? = some fn) (hb : fn.body = some code) (hname : (fn.name == "runtime.NumGoroutine") = false) (hck : codeOk T fn.ntmps code = true) (hargs : Nat.ble args.length fn.ntmps = true)
  (h : (∀ a, a ∈ args → Wf a) → evK ⟨E, P, T, rows, 0, 0⟩ code (EndK T fn.results.toList fun r' own' => r' = r ∧ own' = own) (St.init args)) : FnR E P f args r own := by
 refine .inl ⟨⟨fn, hf, hname, by rw [hb]; rfl⟩, fun F w vals hgw hl hr => ?_⟩
 have hwf : ∀ a, a ∈ args → Wf a := fun a ha => by
  obtain ⟨i, hi, rfl⟩ := List.getElem_of_mem ha
  exact (hr i (vals[i]'(by omega)) _ (List.getElem?_eq_getElem _) (List.getElem?_eq_getElem hi)).wf
 have hle : args.length ≤ fn.ntmps := by simpa [Nat.ble_eq] using hargs
 let B : Base := { F := F, O := fun _ => none, w := w, nt := fn.ntmps }
 let G0 : Gh := { F := F, ι := fun _ => none, κ := fun _ => none, O := fun _ => none }
 have hconc : Conc E B G0 w { tmps := vals.toArray ++ Array.replicate (fn.ntmps - vals.toArray.size) undef, defers := [] } (St.init args) := by
  refine ⟨⟨hgw.fin, fun b i hi => (by cases hi), Nat.le_refl _, fun b _ _ => ⟨rfl, rfl⟩, fun b o hb => ⟨hb, rfl⟩, fun b o hb => .inl hb, rfl, rfl, rfl, hgw.glob, hgw.gb, fun i g h => (by cases h), fun i r h => (by cases h)⟩, by simp [B]; omega, rfl, fun l => ?_⟩
  cases l with
  | slot t =>
   refine ⟨?_, trivial⟩
   simp only [St.init]
   rcases Nat.lt_or_ge t args.length with ht | ht
   ·have h1 : args.getD t .any = args[t] := by simp [List.getD, ht]
    have h2 : (vals.toArray ++ Array.replicate (fn.ntmps - vals.toArray.size) undef).getD t undef = vals[t]'(by omega) := by
     rw [Array.getD_eq_getD_getElem?, Array.getElem?_append_left (by simp; omega)]
     simp [show t < vals.length by omega]
    rw [h1, h2]
    exact hr t _ _ (List.getElem?_eq_getElem _) (List.getElem?_eq_getElem ht)
   ·have h1 : args.getD t .any = .any := by simp [List.getD, List.getElem?_eq_none ht]
    rw [h1]; exact .any ..
  | obj i => simp [RepL, St.init, RepObj, G0]
  | tok i => simp [RepL, St.init, RepTok, G0]
 refine calls_of_wp hf hb (wp_mono (evK_ok (C := ⟨E, P, T, rows, 0, 0⟩) hT hm (B := B) rfl rfl code _ _ hck (h hwf) G0 w _ hconc) fun e a w' hp => ?_)
 obtain ⟨st, G, hk, hst⟩ := hp
 have hbel : Below w.heap.size w w' := ⟨hst.good.os, hst.good.tape, hst.good.output, hst.good.size, fun b hb' => (hst.good.old b hb' rfl).2⟩
 have hFF : ∀ b o, F b o → G.F b o := fun b o hbo => (hst.good.keep b o hbo).1
 have hFn : ∀ b o, G.F b o → b < w'.heap.size ∧ (F b o ∨ w.heap.size ≤ b) := fun b o hbo => ⟨hst.good.fin b o hbo, by
  rcases hst.good.new b o hbo with h1 | h1 | h1
  ·exact .inl h1
  ·exact .inr h1
  ·exact absurd rfl h1⟩
 have hown : ∀ g i, G.O g = some i → g < w'.heap.size ∧ w.heap.size ≤ g := fun g i hi => ⟨(hst.good.own g i hi).1, by
  rcases Nat.lt_or_ge g w.heap.size with h1 | h1
  ·have := (hst.good.old g h1 rfl).1
   rw [this] at hi; cases hi
  ·exact h1⟩
 have hend : RetE T fn.results.toList st (fun r' own' => r' = r ∧ own' = own) → a.defers = [] ∧ ∃ v, (results fn a.tmps).run P w' = .ok v w' ∧ ∃ v' F', Ending.returned v = .returned v' ∧ Below w.heap.size w w' ∧ (∀ b o, F b o → F' b o) ∧
   (∀ b o, F' b o → b < w'.heap.size ∧ (F b o ∨ w.heap.size ≤ b)) ∧ Rep F' w' (fun _ => none) v' r ∧ (own = true → OwnRes w F' w' v' r) := by
  intro hret
  refine ⟨hst.defers, ?_⟩
  cases hret with
  | plain hres =>
   obtain ⟨l, ⟨hp, hq, ho⟩, vs, hrun, hlen, hrep⟩ := resE_ok hT hst _ _ hres
   refine ⟨_, run_results fn a.tmps w' hrun, _, G.F, rfl, hbel, hFF, hFn, ?_, fun h => by rw [← ho] at h; cases h⟩
   rw [← hq]
   exact (pack_rep hlen hrep).pure (AV.puR_ok hp) _
  | frz hres =>
   obtain ⟨l, ⟨r', hfz, hq, ho⟩, vs, hrun, hlen, hrep⟩ := resE_ok hT hst _ _ hres
   refine ⟨_, run_results fn a.tmps w' hrun, _, frzF G st.H, rfl, hbel, fun b o hb' => .inl (hFF b o hb'), fun b o hb' => ?_, ?_, fun h => by rw [← ho] at h; cases h⟩
   ·rcases hb' with hb' | ⟨id, t, cs, tg, h1, h2, h3⟩
    ·exact hFn b o hb'
    ·have hobj := hst.rep (.obj id)
     simp only [RepL, h1] at hobj
     obtain ⟨g', i1, i2, _⟩ := hobj.resolve_left (by rintro rfl; simp at h3)
     rw [i1] at h2
     injection h2 with h2
     subst h2
     exact ⟨(hown _ _ i2).1, .inr (hown _ _ i2).2⟩
   ·rw [← hq]
    exact hfz.rep hst _ (pack_rep hlen hrep)
  | own t i hr hg hk hs hq =>
   obtain ⟨hq, ho⟩ := hq
   have hslot := hst.rep (.slot t)
   simp only [RepL, hg] at hslot
   obtain ⟨hrep, htg⟩ := hslot
   obtain ⟨sz, xs, n, cap, g, lo, hi, ad, t1, t2, t3, t4, t5, t6, t7⟩ := htg.list fun cs e => by rw [e] at hs; cases hs
   have hrun : (results fn a.tmps).run P w' = .ok (a.tmps.getD t undef) w' := by
    have := run_results (P := P) fn a.tmps w' (vs := [a.tmps.getD t undef]) (by rw [hr]; simp [resV])
    exact this
   refine ⟨_, hrun, _, G.F, rfl, hbel, hFF, hFn, ?_, fun _ => ?_⟩
   ·rw [← hq, t1]
    rw [t1] at hrep
    exact hrep.pure (.list _ _) _
   ·refine ⟨sz, xs, n, cap, g, lo, hi, ad, by rw [← hq]; exact t1, t2, t4, t5, t6, ?_⟩
    rcases t7 with t7 | ⟨t7, o1, ta, tb, tc⟩
    ·exact .inl t7
    ·have htok := hst.rep (.tok i)
     simp only [RepL] at htok
     have hx : G.O g = some (.inr i) ∧ (∀ x, lo ≤ x → ¬ G.F g x) ∧ ∃ vals t fz, w'.heap[g]? = some (.cells vals t fz) ∧ hi ≤ vals.size ∧ ∀ x, lo ≤ x → x < hi → ¬ inFz fz x := by
      cases hki : st.k[i]? with
      | none => rw [hki] at hk; cases hk
      | some tk =>
       rw [hki] at hk htok
       match tk, htok, hk with
       | 0, _, ha => cases ha
       | 1, ⟨g', lo', hi', k1, k2⟩, _ =>
        rw [t3] at k1
        injection k1 with k1
        injection k1 with k1a k1
        injection k1 with k1b k1c
        subst k1a k1b k1c
        exact k2 t7
       | _ + 2, ⟨g', lo', k1⟩, _ =>
        rw [t3] at k1
        injection k1 with k1
        injection k1 with k1a k1
        injection k1 with k1b k1c
        omega
     obtain ⟨x1, x2, x3⟩ := hx
     exact .inr ⟨t7, ⟨o1, ta, tb, tc⟩, (hown _ _ x1).2, x2, x3⟩
 cases e with
 | normal => exact hend hk
 | ret => exact hend hk
 | exit i => exact hk.elim
 | goto l => exact hk.elim
 | panic ch => exact hk.elim
 | outgrown => exact hk.elim
structure Slot where
 t : Nat
 v : AV
 tag : Option Nat
def slotsAV : List Slot → Nat → AV
 | [], _ => .any
 | s :: r, t => bif Nat.beq t s.t then s.v else slotsAV r t
def slotsTag : List Slot → Nat → Option Nat
 | [], _ => none
 | s :: r, t => bif Nat.beq t s.t then s.tag else slotsTag r t
def St.of (L : List Slot) (H : List AObj) (k : List Nat) : St := { s := slotsAV L, g := slotsTag L, H := H, k := k }
def tgOk (m : Nat) (ρ : Nat → Nat) (tg tg' : List (Nat × Nat)) : Bool :=
 tg'.all fun p => Nat.blt p.2 m && (match tg.lookup p.1 with | some i => Nat.beq i (ρ p.2) | none => false)
theorem lookup_mem {l : List (Nat × Nat)} {j i : Nat} (h : l.lookup j = some i) : (j, i) ∈ l := by
 induction l with
 | nil => cases h
 | cons x l ih =>
  obtain ⟨a, b⟩ := x
  simp only [List.lookup] at h
  split at h
  ·rename_i hh
   injection h with h
   have := eq_of_beq hh
   subst this h
   exact List.mem_cons_self ..
  ·exact List.mem_cons_of_mem _ (ih h)
theorem tgOk_at {m : Nat} {ρ : Nat → Nat} {tg tg' : List (Nat × Nat)} (h : tgOk m ρ tg tg' = true) {j i : Nat} (hl : tg'.lookup j = some i) : i < m ∧ tg.lookup j = some (ρ i) := by
 have := List.all_eq_true.1 h _ (lookup_mem hl)
 simp only [Bool.and_eq_true, Nat.blt_eq] at this
 refine ⟨this.1, ?_⟩
 have h2 := this.2
 split at h2
 ·rename_i i' hh
  rw [hh, Nat.eq_of_beq_eq_true h2]
 ·cases h2
def KeepO (m : Nat) (ρ : Nat → Nat) : AObj → AObj → Prop
 | _, .dead => True
 | .cells t cs tg, .cells t' cs' tg' => t = t' ∧ cs = cs' ∧ tgOk m ρ tg tg' = true
 | .mp es, .mp es' => es = es'
 | _, _ => False
def KeepH (m : Nat) (ρ : Nat → Nat) : List AObj → List AObj → Prop
 | _, [] => True
 | x :: l, y :: l' => KeepO m ρ x y ∧ KeepH m ρ l l'
 | [], _ :: _ => False
theorem KeepH.at_ {m : Nat} {ρ : Nat → Nat} : ∀ {l l' : List AObj}, KeepH m ρ l l' → ∀ (i : Nat) (y : AObj), l'[i]? = some y → y = .dead ∨ (∃ t cs tg tg', y = .cells t cs tg' ∧ l[i]? = some (.cells t cs tg) ∧ tgOk m ρ tg tg' = true) ∨ ∃ es, y = .mp es ∧ l[i]? = some (.mp es)
 | _, [], _, i, y, h => by simp at h
 | [], _ :: _, hk, _, _, _ => hk.elim
 | x :: l, z :: l', hk, i, y, h => by
  cases i with
  | zero =>
   simp only [List.getElem?_cons_zero, Option.some.injEq] at h
   subst h
   have h1 := hk.1
   cases z with
   | dead => exact .inl rfl
   | cells t' cs' tg' =>
    cases x with
    | dead => exact h1.elim
    | mp => exact h1.elim
    | cells t cs tg =>
     obtain ⟨rfl, rfl, h2⟩ := h1
     exact .inr (.inl ⟨t, cs, tg, tg', rfl, rfl, h2⟩)
   | mp es' =>
    cases x with
    | dead => exact h1.elim
    | cells => exact h1.elim
    | mp es =>
     obtain rfl := h1
     exact .inr (.inr ⟨es, rfl, rfl⟩)
  | succ i =>
   simp only [List.getElem?_cons_succ] at h
   simpa using hk.2.at_ i y h
theorem KeepH.len {m : Nat} {ρ : Nat → Nat} : ∀ {l l' : List AObj}, KeepH m ρ l l' → l'.length ≤ l.length
 | _, [], _ => Nat.zero_le _
 | [], _ :: _, hk => hk.elim
 | _ :: _, _ :: _, hk => by simp only [List.length_cons]; have := hk.2.len; omega
structure KeepK (k : List Nat) (ρ : Nat → Nat) (k' : List Nat) : Prop where
 at_ : ∀ i, i < k'.length → k'[i]? = some 0 ∨ (k'[i]? = some 1 ∧ (k[ρ i]?.any (Nat.blt 0)) = true) ∨ (k'[i]? = some 2 ∧ k[ρ i]? = some 2)
 inj : ∀ i j, i < k'.length → j < k'.length → k'[i]? ≠ some 0 → k'[j]? ≠ some 0 → ρ i = ρ j → i = j
theorem agg_noOne {F : Nat → Nat → Prop} {w : World} {ι : Nat → Option Nat} {v : Value} {cs : List AV} (h : Rep F w ι v (.agg cs)) (ho : v.oneCell' = true) : False := by
 cases h with
 | agg => cases ho
theorem Gho.of {E : Env} {nb nk : Nat} {st : St} (L : List Slot) (H : List AObj) (k : List Nat) (ρ : Nat → Nat) (hL : ∀ x, x ∈ L → st.s x.t = x.v ∧ NoId H.length x.v ∧ ∀ i, x.tag = some i → i < k.length ∧ st.g x.t = some (ρ i) ∧ x.v.isAgg = false)
  (hN : ∀ (i : Nat) t cs tg, H[i]? = some (.cells t cs tg) → ∀ c, c ∈ cs → NoId H.length c) (hH : KeepH k.length ρ st.H H) (hK : KeepK st.k ρ k)
  (hnb : nb ≤ H.length) (hnk : ∀ j, j < nk → j < k.length ∧ ρ j = j) : Gho E nb nk st (St.of L H k) := by
 intro B G w a enb enk hst
 -- the ghosts, cut down
 let ι' : Nat → Option Nat := fun i => if i < H.length then G.ι i else none
 let κ' : Nat → Option (Nat × Nat × Nat) := fun i => if i < k.length then G.κ (ρ i) else none
 let alive : Nat → Prop := fun i => i < k.length ∧ k[i]? ≠ some 0
 let O' : Nat → Option (Nat ⊕ Nat) := open Classical in fun b => match G.O b with
  | none => none
  | some (.inl i) => some (.inl i)
  | some (.inr j) => if h : ∃ i, alive i ∧ ρ i = j then some (.inr (Classical.choose h)) else some (.inr k.length)
 have hι : ∀ i g, i < H.length → G.ι i = some g → ι' i = some g := fun i g hi h => by show (if _ then _ else _) = _; rw [if_pos hi]; exact h
 have hO : ∀ b i, O' b = some i → ∃ j, G.O b = some j := fun b i h => by
  cases hb : G.O b with
  | none => simp only [O', hb] at h; cases h
  | some j => exact ⟨j, rfl⟩
 have hOn : ∀ b, G.O b = none → O' b = none := fun b h => by simp only [O', h]
 refine ⟨{ F := G.F, ι := ι', κ := κ', O := O' }, ⟨hst.good.fin, fun b i hi => by obtain ⟨j, hj⟩ := hO b i hi; exact hst.good.own b j hj, hst.good.size, fun b hb hn => ⟨hOn _ (hst.good.old b hb hn).1, (hst.good.old b hb hn).2⟩, hst.good.keep, hst.good.new, hst.good.os, hst.good.tape, hst.good.output, hst.good.glob, hst.good.gb, fun i g hi => ⟨(hst.good.ids i g hi).1, hι i g (by have := (hst.good.ids i g hi).1; omega) (hst.good.ids i g hi).2⟩, fun i r hi => ⟨(hst.good.toks i r hi).1, by
  obtain ⟨h1, h2⟩ := hst.good.toks i r hi
  obtain ⟨h3, h4⟩ := hnk i (by omega)
  show (if _ then _ else _) = _
  rw [if_pos h3, h4]; exact h2⟩⟩, hst.size, hst.defers, fun l => ?_⟩
 cases l with
 | slot t =>
  have key : ∀ (L' : List Slot), (∀ x, x ∈ L' → x ∈ L) → RepSlot { F := G.F, ι := ι', κ := κ', O := O' } w (a.tmps.getD t undef) (slotsAV L' t) (slotsTag L' t) := by
   intro L'
   induction L' with
   | nil => intro _; exact ⟨.any .., trivial⟩
   | cons x L' ih =>
    intro hm
    by_cases hb : Nat.beq t x.t = true
    ·simp only [slotsAV, slotsTag, hb, cond_true]
     have ht : t = x.t := Nat.eq_of_beq_eq_true hb
     obtain ⟨h1, h2, h3⟩ := hL x (hm x (List.mem_cons_self ..))
     have hs := hst.rep (.slot t)
     simp only [RepL, ht] at hs
     rw [h1] at hs
     refine ⟨by rw [ht]; exact hs.1.noId H.length ι' h2 (fun i g hi h => hι i g hi h), ?_⟩
     cases htg : x.tag with
     | none => trivial
     | some i =>
      obtain ⟨hi, h4, h5⟩ := h3 i htg
      have htag := hs.2
      rw [h4] at htag
      rcases htag with ⟨sz, xs, n, cap, g, lo, hi', ad, t1, t2, t3, t4⟩ | ⟨cs, t1, t2⟩
      ·exact .inl ⟨sz, xs, n, cap, g, lo, hi', ad, t1, by rw [ht]; exact t2, by show (if _ then _ else _) = _; rw [if_pos hi]; exact t3, t4⟩
      ·rw [t1] at h5; cases h5
    ·have hb' : Nat.beq t x.t = false := Bool.eq_false_iff.2 hb
     simp only [slotsAV, slotsTag, hb', cond_false]
     exact ih fun y hy => hm y (List.mem_cons_of_mem _ hy)
  exact key L fun x h => h
 | obj i =>
  simp only [RepL, St.of]
  cases hi : H[i]? with
  | none =>
   have : H.length ≤ i := by
    rcases Nat.lt_or_ge i H.length with h | h
    ·rw [List.getElem?_eq_getElem h] at hi; cases hi
    ·exact h
   show (if _ then _ else _) = _
   rw [if_neg (by omega)]
  | some y =>
   have hil : i < H.length := (List.getElem?_eq_some_iff.1 hi).1
   rcases hH.at_ i y hi with h | ⟨t, cs, tg, tg', h1, h2, h3⟩ | ⟨es, h1, h2⟩
   ·subst h; trivial
   ·subst h1
    have hobj := hst.rep (.obj i)
    simp only [RepL, h2] at hobj
    rcases hobj with h0 | ⟨g, i1, i2, i3, vals, fz, i4, i5, i6, i7⟩
    ·exact .inl h0
    ·refine .inr ⟨g, hι i g hil i1, by simp only [O', i2], i3, vals, fz, i4, i5, i6, fun j c hc => ?_⟩
     obtain ⟨v, v1, v2, v3⟩ := i7 j c hc
     refine ⟨v, v1, v2, v3.1.noId H.length ι' (hN i t cs tg' hi c (List.mem_of_getElem? hc)) (fun i g hi h => hι i g hi h), ?_⟩
     cases htg : tg'.lookup j with
     | none => trivial
     | some i' =>
      obtain ⟨hi', h4⟩ := tgOk_at h3 htg
      have htag := v3.2
      rw [h4] at htag
      rcases htag with ⟨sz, xs, n, cap, g2, lo, hi2, ad, t1, t2, t3, t4⟩ | h
      ·exact .inl ⟨sz, xs, n, cap, g2, lo, hi2, ad, t1, t2, by show (if _ then _ else _) = _; rw [if_pos hi']; exact t3, t4⟩
      ·obtain ⟨cs1, h5, _⟩ := h
       exact (agg_noOne (h5 ▸ v3.1) v2).elim
   ·subst h1
    have hobj := hst.rep (.obj i)
    simp only [RepL, h2] at hobj
    obtain ⟨g, i1, i2, i3, i4⟩ := hobj
    exact ⟨g, hι i g hil i1, by simp only [O', i2], i3, i4.keep (fun _ _ h => h) (fun _ _ _ => rfl) (fun k hk => ⟨by simp only [O', hk], rfl, fun _ h => h⟩) rfl⟩
 | tok i =>
  simp only [RepL, St.of]
  cases hi : k[i]? with
  | none =>
   have : k.length ≤ i := by
    rcases Nat.lt_or_ge i k.length with h | h
    ·rw [List.getElem?_eq_getElem h] at hi; cases hi
    ·exact h
   show (if _ then _ else _) = _
   rw [if_neg (by omega)]
  | some y =>
   have hil : i < k.length := (List.getElem?_eq_some_iff.1 hi).1
   rcases hK.at_ i hil with h | ⟨h, h'⟩ | ⟨h, h'⟩
   ·rw [hi] at h; injection h with h; subst h; trivial
   ·rw [hi] at h; injection h with h; subst h
    have htok := hst.rep (.tok (ρ i))
    simp only [RepL] at htok
    cases hk : st.k[ρ i]? with
    | none => rw [hk] at h'; cases h'
    | some tk =>
     rw [hk] at h' htok
     match tk, htok, h' with
     | 0, _, ha => cases ha
     | 1, ⟨g, lo, hi', k1, k2⟩, _ =>
      refine ⟨g, lo, hi', by show (if _ then _ else _) = _; rw [if_pos hil]; exact k1, fun hlt => ?_⟩
      obtain ⟨m1, m2, m3⟩ := k2 hlt
      refine ⟨?_, m2, m3⟩
      have hex : ∃ j, alive j ∧ ρ j = ρ i := ⟨i, ⟨hil, by rw [hi]; simp⟩, rfl⟩
      simp only [O', m1]
      rw [dif_pos hex]
      have hs := Classical.choose_spec hex
      have := hK.inj _ i hs.1.1 hil hs.1.2 (by rw [hi]; simp) hs.2
      rw [this]
     | _ + 2, ⟨g, lo, k1⟩, _ => exact ⟨g, lo, lo, by show (if _ then _ else _) = _; rw [if_pos hil]; exact k1, fun h => absurd h (Nat.lt_irrefl _)⟩
   ·rw [hi] at h; injection h with h; subst h
    have htok := hst.rep (.tok (ρ i))
    simp only [RepL, h'] at htok
    obtain ⟨g, lo, k1⟩ := htok
    exact ⟨g, lo, by show (if _ then _ else _) = _; rw [if_pos hil]; exact k1⟩
end Go.Pm
namespace Go.Pm
open Go Go.RowKit
set_option linter.unusedVariables false
set_option linter.unusedSimpArgs false
def AV.noB (n : Nat) : AV → Bool
 | .ptr id _ | .row id _ _ => Nat.blt id n
 | .mapv id => Nat.blt id n
 | .agg cs => cs.all fun c => match c with
  | .ptr id _ | .row id _ _ => Nat.blt id n
  | .fn _ a b => a.all AV.puB && b.all AV.puB
  | c => AV.puB c
 | .fn _ a b => (a.all fun c => match c with
  | .ptr id _ | .row id _ _ => Nat.blt id n
  | c => AV.puB c) && b.all fun c => match c with
  | .ptr id _ | .row id _ _ => Nat.blt id n
  | c => AV.puB c
 | .any => true
 | a => AV.puB a
theorem NoId.up {n m : Nat} {a : AV} (h : NoId n a) (hnm : n ≤ m) : NoId m a := by
 induction h with
 | any => exact .any
 | bool => exact .bool _
 | int => exact .int ..
 | str => exact .str _
 | list => exact .list ..
 | row _ _ _ h => exact .row _ _ _ (by omega)
 | agg _ _ ih => exact .agg _ ih
 | tup _ _ ih => exact .tup _ ih
 | ptr _ _ h => exact .ptr _ _ (by omega)
 | iptr => exact .iptr _
 | nilp => exact .nilp
 | fn _ _ _ _ _ i1 i2 => exact .fn _ _ _ i1 i2
 | nilf => exact .nilf
 | iface _ _ _ ih => exact .iface _ _ ih
 | nili => exact .nili
 | glob => exact .glob _
 | mapv _ h => exact .mapv _ (by omega)
 | cond0 => exact .cond0 _
 | cond _ _ _ ih => exact .cond _ _ ih
theorem noB1 {n : Nat} {c : AV} (h : (match c with
  | .ptr id _ | .row id _ _ => Nat.blt id n
  | c => AV.puB c) = true) : NoId n c := by
 split at h
 ·exact .ptr _ _ (by simpa [Nat.blt_eq] using h)
 ·exact .row _ _ _ (by simpa [Nat.blt_eq] using h)
 ·exact (AV.puB_ok h).up (Nat.zero_le _)
theorem AV.noB_ok {n : Nat} {a : AV} (h : a.noB n = true) : NoId n a := by
 unfold AV.noB at h
 split at h
 ·exact .ptr _ _ (by simpa [Nat.blt_eq] using h)
 ·exact .row _ _ _ (by simpa [Nat.blt_eq] using h)
 ·exact .mapv _ (by simpa [Nat.blt_eq] using h)
 ·refine .agg _ fun c hc => ?_
  have := List.all_eq_true.1 h c hc
  split at this
  ·exact .ptr _ _ (by simpa [Nat.blt_eq] using this)
  ·exact .row _ _ _ (by simpa [Nat.blt_eq] using this)
  ·simp only [Bool.and_eq_true, List.all_eq_true] at this
   exact .fn _ _ _ (fun c hc => (AV.puB_ok (this.1 c hc)).up (Nat.zero_le _)) fun c hc => (AV.puB_ok (this.2 c hc)).up (Nat.zero_le _)
  ·exact (AV.puB_ok this).up (Nat.zero_le _)
 ·simp only [Bool.and_eq_true] at h
  exact .fn _ _ _ (fun c hc => noB1 (List.all_eq_true.1 h.1 c hc)) fun c hc => noB1 (List.all_eq_true.1 h.2 c hc)
 ·exact .any
 ·exact (AV.puB_ok h).up (Nat.zero_le _)
def KeepL (st : St) (n m : Nat) (ρ : Nat → Nat) : List Slot → Prop
 | [] => True
 | x :: L => st.s x.t = x.v ∧ x.v.noB n = true ∧ (match x.tag with
  | none => True
  | some i => Nat.blt i m = true ∧ st.g x.t = some (ρ i) ∧ x.v.isAgg = false) ∧ KeepL st n m ρ L
theorem KeepL.at_ {st : St} {n m : Nat} {ρ : Nat → Nat} : ∀ {L : List Slot}, KeepL st n m ρ L → ∀ x, x ∈ L → st.s x.t = x.v ∧ NoId n x.v ∧ ∀ i, x.tag = some i → i < m ∧ st.g x.t = some (ρ i) ∧ x.v.isAgg = false
 | [], _, x, hx => by cases hx
 | y :: L, h, x, hx => by
  rcases List.mem_cons.1 hx with rfl | hx
  ·refine ⟨h.1, AV.noB_ok h.2.1, fun i hi => ?_⟩
   have := h.2.2.1
   rw [hi] at this
   exact ⟨by simpa [Nat.blt_eq] using this.1, this.2⟩
  ·exact h.2.2.2.at_ x hx
def keepN (n : Nat) : List AObj → Bool
 | [] => true
 | .dead :: H | .mp .. :: H => keepN n H
 | .cells _ cs _ :: H => cs.all (AV.noB n) && keepN n H
theorem keepN_at {n : Nat} : ∀ {H : List AObj}, keepN n H = true → ∀ (i : Nat) t cs tg, H[i]? = some (.cells t cs tg) → ∀ c, c ∈ cs → NoId n c
 | [], _, i, t, cs, tg, h => by simp at h
 | x :: H, hk, i, t, cs, tg, h => by
  cases i with
  | zero =>
   simp only [List.getElem?_cons_zero, Option.some.injEq] at h
   subst h
   simp only [keepN, Bool.and_eq_true, List.all_eq_true] at hk
   exact fun c hc => AV.noB_ok (hk.1 c hc)
  | succ i =>
   refine keepN_at (H := H) ?_ i t cs tg (by simpa using h)
   cases x with
   | dead => exact hk
   | mp => exact hk
   | cells => simp only [keepN, Bool.and_eq_true] at hk; exact hk.2
def inAlive (i : Nat) : List Nat → List Nat → Bool
 | j :: r, x :: k' => (match x with | 0 => false | _ => Nat.beq i j) || inAlive i r k'
 | _, _ => false
theorem inAlive_at {i : Nat} : ∀ {r k' : List Nat}, inAlive i r k' = false → ∀ j n, k'[j]? = some (n + 1) → j < r.length → r.getD j 0 ≠ i
 | [], _, _, j, n, _, hl => by simp at hl
 | _ :: _, [], _, j, n, h, _ => by simp at h
 | y :: r, x :: k', h, j, n, hj, hl => by
  unfold inAlive at h
  rw [Bool.or_eq_false_iff] at h
  cases j with
  | zero =>
   simp only [List.getElem?_cons_zero, Option.some.injEq] at hj
   subst hj
   simp only [List.getD_cons_zero]
   rintro rfl
   have := h.1
   simp at this
  | succ j =>
   simp only [List.getElem?_cons_succ] at hj
   simp only [List.getD_cons_succ]
   exact inAlive_at h.2 j n hj (by simpa using hl)
def keepK (k : List Nat) : List Nat → List Nat → Bool
 | [], [] => true
 | i :: r, x :: k' => (match x with
  | 0 => true
  | 1 => k[i]?.any (Nat.blt 0) && !(inAlive i r k')
  | 2 => (match k[i]? with | some 2 => true | _ => false) && !(inAlive i r k')
  | _ => false) && keepK k r k'
 | _, _ => false
theorem keepK_len {k : List Nat} : ∀ {r k' : List Nat}, keepK k r k' = true → r.length = k'.length
 | [], [], _ => rfl
 | i :: r, x :: k', h => by
  simp only [keepK, Bool.and_eq_true] at h
  simp [keepK_len h.2]
theorem keepK_at {k : List Nat} : ∀ {r k' : List Nat}, keepK k r k' = true → ∀ i, i < k'.length → k'[i]? = some 0 ∨ (k'[i]? = some 1 ∧ (k[r.getD i 0]?.any (Nat.blt 0)) = true) ∨ (k'[i]? = some 2 ∧ k[r.getD i 0]? = some 2)
 | [], [], _, i, hi => by simp at hi
 | j :: r, x :: k', h, i, hi => by
  simp only [keepK, Bool.and_eq_true] at h
  cases i with
  | zero =>
   simp only [List.getElem?_cons_zero, Option.some.injEq, List.getD_cons_zero]
   have := h.1
   split at this
   ·exact .inl rfl
   ·rw [Bool.and_eq_true] at this; exact .inr (.inl ⟨rfl, this.1⟩)
   ·rw [Bool.and_eq_true] at this
    refine .inr (.inr ⟨rfl, ?_⟩)
    have := this.1
    split at this
    ·assumption
    ·cases this
   ·cases this
  | succ i =>
   have := keepK_at h.2 i (by simpa using hi)
   simpa using this
theorem keepK_inj {k : List Nat} : ∀ {r k' : List Nat}, keepK k r k' = true → ∀ i j n m, k'[i]? = some (n + 1) → k'[j]? = some (m + 1) → r.getD i 0 = r.getD j 0 → i = j
 | [], [], _, i, _, n, m, hi, _ => by simp at hi
 | x :: r, y :: k', h, i, j, n, m, hi, hj => by
  have hl := keepK_len h
  simp only [keepK, Bool.and_eq_true] at h
  have hl' : r.length = k'.length := by simpa using hl
  have hne : ∀ q, y = q + 1 → ∀ j2 m2, k'[j2]? = some (m2 + 1) → r.getD j2 0 ≠ x := by
   clear hi hj
   intro q hq j2 m2 hj2
   have h1 := h.1
   have hlt : j2 < r.length := by rw [hl']; exact (List.getElem?_eq_some_iff.1 hj2).1
   split at h1
   ·cases hq
   ·simp only [Bool.and_eq_true, Bool.not_eq_true'] at h1; exact inAlive_at h1.2 j2 m2 hj2 hlt
   ·simp only [Bool.and_eq_true, Bool.not_eq_true'] at h1; exact inAlive_at h1.2 j2 m2 hj2 hlt
   ·cases h1
  cases i with
  | zero => cases j with
   | zero => intro _; rfl
   | succ j =>
    simp only [List.getElem?_cons_zero, Option.some.injEq] at hi
    intro e; simp only [List.getD_cons_zero, List.getD_cons_succ] at e
    exact absurd e.symm (hne n hi j m (by simpa using hj))
  | succ i => cases j with
   | zero =>
    simp only [List.getElem?_cons_zero, Option.some.injEq] at hj
    intro e; simp only [List.getD_cons_zero, List.getD_cons_succ] at e
    exact absurd e (hne m hj i n (by simpa using hi))
   | succ j => intro e; simp only [List.getD_cons_succ] at e; rw [keepK_inj h.2 i j n m (by simpa using hi) (by simpa using hj) e]
def idOn (nk m : Nat) (r : List Nat) : Bool := (List.range nk).all fun j => Nat.blt j m && Nat.beq (r.getD j 0) j
theorem Gho.to {E : Env} {nb nk : Nat} {st : St} (L : List Slot) (H : List AObj) (k : List Nat) (r : List Nat) (hH : KeepH k.length (fun i => r.getD i 0) st.H H) (hN : keepN H.length H = true) (hK : keepK st.k r k = true) (hb : Nat.ble nb H.length = true) (hi : idOn nk k.length r = true)
  (hL : KeepL st H.length k.length (fun i => r.getD i 0) L) : Gho E nb nk st (St.of L H k) :=
 .of L H k (fun i => r.getD i 0) hL.at_ (keepN_at hN) hH ⟨keepK_at hK, fun i j hi hj h0 h1 e => by
  have nz : ∀ i, i < k.length → k[i]? ≠ some 0 → ∃ n, k[i]? = some (n + 1) := fun i hi h => by
   rw [List.getElem?_eq_getElem hi] at h ⊢
   cases hx : k[i] with
   | zero => rw [hx] at h; exact absurd rfl h
   | succ n => exact ⟨n, rfl⟩
  obtain ⟨n, hn⟩ := nz i hi h0
  obtain ⟨m, hm⟩ := nz j hj h1
  exact keepK_inj hK i j n m hn hm e⟩ (Nat.le_of_ble_eq_true hb) fun j hj => by
  have := List.all_eq_true.1 hi j (List.mem_range.2 hj)
  simp only [Bool.and_eq_true, Nat.blt_eq] at this
  exact ⟨this.1, Nat.eq_of_beq_eq_true this.2⟩
theorem LoopE.of {E : Env} {nb nk : Nat} {body : (Exit → St → Prop) → St → Prop} {K : Exit → St → Prop} {st : St} {α : Type} (S : α → St) (μ : α → Nat) (x0 : α) (h1 : Gho E nb nk st (S x0))
  (h2 : ∀ x, body (fun e s => match e with | .normal => ∃ x', μ x' < μ x ∧ Gho E nb nk s (S x') | e => K e s) (S x)) : LoopE E nb nk body K st := ⟨α, S, μ, x0, h1, h2⟩
theorem and_r {a b : Bool} (h : (a && b) = true) : b = true := by cases a <;> simp_all
theorem i64_ok {n : Int} (h : -9223372036854775808 ≤ n) (h' : n ≤ 9223372036854775807) : IntKind.i64.wrap n = n := IntWalk.i64_in n (by omega)
theorem i64_inc {n m : Nat} (h : n < m) (hm : m ≤ maxLen) : IntKind.i64.wrap ((n : Int) + 1) = ((n + 1 : Nat) : Int) := by
 unfold maxLen at hm
 rw [i64_ok (by omega) (by omega)]; rfl
theorem splice_one {cs : List AV} {off : Nat} {x : AV} (h : off < cs.length) : splice cs off [x] = cs.set off x := by
 refine List.ext_getElem? fun j => ?_
 rw [splice_get _ _ _ (by simp; omega), List.getElem?_set]
 by_cases hj : off = j
 ·subst hj; simp [h]
 ·rw [if_neg (by simp; omega), if_neg hj]
theorem splice_all {cs xs : List AV} (h : xs.length = cs.length) : splice cs 0 xs = xs := by
 unfold splice
 simp [h]
end Go.Pm
namespace Go.Pm
open Go Go.RowKit
set_option linter.unusedVariables false
set_option linter.unusedSimpArgs false
inductive IdP (p : Nat → Prop) : AV → Prop
 | any : IdP p .any
 | bool (b) : IdP p (.bool b)
 | int (k m) : IdP p (.int k m)
 | str (s) : IdP p (.str s)
 | list (sz xs) : IdP p (.list sz xs)
 | row (id off len) (h : p id) : IdP p (.row id off len)
 | agg (cs) (h : ∀ c, c ∈ cs → IdP p c) : IdP p (.agg cs)
 | tup (cs) (h : ∀ c, c ∈ cs → IdP p c) : IdP p (.tup cs)
 | ptr (id off) (h : p id) : IdP p (.ptr id off)
 | iptr (cs) : IdP p (.iptr cs)
 | nilp : IdP p .nilp
 | fn (f a b) (h : ∀ c, c ∈ a → IdP p c) (h' : ∀ c, c ∈ b → IdP p c) : IdP p (.fn f a b)
 | nilf : IdP p .nilf
 | iface (t v) (h : IdP p v) : IdP p (.iface t v)
 | nili : IdP p .nili
 | glob (g) : IdP p (.glob g)
 | mapv (id) (h : p id) : IdP p (.mapv id)
theorem Rep.idP {F : Nat → Nat → Prop} {w : World} {ι : Nat → Option Nat} {v : Value} {a : AV} (h : Rep F w ι v a) :
  ∀ p ι', IdP p a → (∀ i g, p i → ι i = some g → ι' i = some g) → Rep F w ι' v a := by
 induction h with
 | any => intro n ι' _ _; exact .any ..
 | bool => intro n ι' _ _; exact .bool ..
 | int ι k n h => intro n ι' _ _; exact .int _ _ _ h
 | str ι s h => intro n ι' _ _; exact .str _ _ h
 | empty ι a cap sz h => intro n ι' _ _; exact .empty _ _ _ _ h
 | list ι b o n cap sz xs vals hn hc hm hsz hF' hv hr ih => intro n ι' _ _; exact .list _ _ _ _ _ _ _ vals hn hc hm hsz hF' hv hr
 | row ι id off len cap g h hc hm => intro n ι' hn hι; cases hn with | row _ _ _ hlt => exact .row _ _ _ _ _ _ (hι _ _ hlt h) hc hm
 | row0 ι id off cap a hm => intro n ι' _ _; exact .row0 _ _ _ _ _ hm
 | agg ι vs cs hl ho _ ih =>
  intro n ι' hn hι
  cases hn with | agg _ hn => exact .agg _ _ _ hl ho fun i v c hv hc => ih i v c hv hc n _ (hn c (List.mem_of_getElem? hc)) hι
 | tup ι vs cs hl _ ih =>
  intro n ι' hn hι
  cases hn with | tup _ hn => exact .tup _ _ _ hl fun i v c hv hc => ih i v c hv hc n _ (hn c (List.mem_of_getElem? hc)) hι
 | ptr ι id off g h => intro n ι' hn hι; cases hn with | ptr _ _ hlt => exact .ptr _ _ _ _ (hι _ _ hlt h)
 | iptr ι b o cs vals hF' hv hr ih => intro n ι' _ _; exact .iptr _ _ _ _ vals hF' hv hr
 | nilp => intro n ι' _ _; exact .nilp _
 | fn ι f fs cs fs' cs' hl hl' _ _ ih ih' =>
  intro n ι' hn hι
  cases hn with | fn _ _ _ h1 h2 =>
  exact .fn _ _ _ _ _ _ hl hl' (fun i v c hv hc => ih i v c hv hc n _ (h1 c (List.mem_of_getElem? hc)) hι) (fun i v c hv hc => ih' i v c hv hc n _ (h2 c (List.mem_of_getElem? hc)) hι)
 | nilf => intro n ι' _ _; exact .nilf _
 | iface ι t v a _ ih => intro n ι' hn hι; cases hn with | iface _ _ h => exact .iface _ _ _ _ (ih n _ h hι)
 | nili => intro n ι' _ _; exact .nili _
 | glob => intro n ι' _ _; exact .glob ..
 | mapv ι id g h => intro n ι' hn hι; cases hn with | mapv _ hlt => exact .mapv _ _ _ (hι _ _ hlt h)
 | cond0 => intro n ι' hn _; cases hn
 | cond1 ι v a _ ih => intro n ι' hn hι; cases hn
theorem IdP.mono {p q : Nat → Prop} {a : AV} (h : IdP p a) (hpq : ∀ i, p i → q i) : IdP q a := by
 induction h with
 | any => exact .any
 | bool => exact .bool _
 | int => exact .int ..
 | str => exact .str _
 | list => exact .list ..
 | row _ _ _ h => exact .row _ _ _ (hpq _ h)
 | agg _ _ ih => exact .agg _ ih
 | tup _ _ ih => exact .tup _ ih
 | ptr _ _ h => exact .ptr _ _ (hpq _ h)
 | iptr => exact .iptr _
 | nilp => exact .nilp
 | fn _ _ _ _ _ i1 i2 => exact .fn _ _ _ i1 i2
 | nilf => exact .nilf
 | iface _ _ _ ih => exact .iface _ _ ih
 | nili => exact .nili
 | glob => exact .glob _
 | mapv _ h => exact .mapv _ (hpq _ h)
def aliveP (H : List AObj) (i : Nat) : Prop := ∃ t c cs tg, H[i]? = some (.cells t (c :: cs) tg)
def tokP (k : List Nat) (n : Nat) (j : Nat) : Prop := (∃ x, k[j]? = some (x + 1)) ∨ (k.length ≤ j ∧ j < n)
def St.initW (args : List AV) (H : List AObj) (k : List Nat) : St := { s := fun t => args.getD t .any, g := fun _ => none, H := H, k := k }
def tagRes (L : List Slot) : List ResultVar → Option Nat
 | [.tmp t] => slotsTag L t
 | _ => none
def EndW (E : Env) (T : Tab) (nb nk : Nat) (rs : List ResultVar) (r : AV) (tag : Option Nat) (H' : List AObj) (k' : List Nat) : Exit → St → Prop
 | .ret, st | .normal, st => ∃ L, Gho E nb nk st (St.of L H' k') ∧ resE T (St.of L H' k') rs (fun l => packR l = r) ∧ tagRes L rs = tag
 | _, _ => False
def CellsP (H : List AObj) (p q : Nat → Prop) : Prop := ∀ (i : Nat) t cs tg, H[i]? = some (.cells t cs tg) → (∀ c, c ∈ cs → IdP p c) ∧ ∀ j i', tg.lookup j = some i' → q i'
theorem FnW.of_ev {E : Env} {P : Program} {T : Tab} {rows : List Nat} (hT : TOk P T) (hm : P.follows .mixedOrders = true) {f : FuncId} {fn : Func} {code : Code} {args : List AV} {H H' : List AObj} {k k' : List Nat} {r : AV} {tag : Option Nat}
  (hf : P.funcs[f]? = some fn) (hb : fn.body = some code) (hname : (fn.name == "runtime.NumGoroutine") = false) (hck : codeOk T fn.ntmps code = true) (hargs : Nat.ble args.length fn.ntmps = true)
  (lH : H'.length = H.length) (lk : k.length ≤ k'.length) (pa : ∀ a, a ∈ args → IdP (aliveP H) a) (pH : CellsP H (aliveP H) (tokP k k.length)) (pr : IdP (aliveP H) r) (pt : ∀ i, tag = some i → tokP k k'.length i) (pH' : CellsP H' (aliveP H) (tokP k k'.length)) (pE : ∀ (i : Nat) t tg, H[i]? ≠ some (AObj.cells t [] tg))
  (h : (∀ a, a ∈ args → Wf a) → evK ⟨E, P, T, rows, H.length, k.length⟩ code (EndW E T H.length k.length fn.results.toList r tag H' k') (St.initW args H k)) : FnW E P f args H k r tag H' k' := by
 have hlt : ∀ i, aliveP H i → i < H.length := fun i ⟨t, c, cs, tg, h⟩ => (List.getElem?_eq_some_iff.1 h).1
 refine ⟨⟨fn, hf, hname, by rw [hb]; rfl⟩, lH, lk, fun B G w vals hgd hN hl hr => ?_⟩
 have hwf : ∀ a, a ∈ args → Wf a := fun a ha => by
  obtain ⟨i, hi, rfl⟩ := List.getElem_of_mem ha
  exact (hr i (vals[i]'(by omega)) _ (List.getElem?_eq_getElem _) (List.getElem?_eq_getElem hi)).wf
 have hle : args.length ≤ fn.ntmps := by simpa [Nat.ble_eq] using hargs
 -- what the callee sees
 let ιc : Nat → Option Nat := fun i => if i < H.length then G.ι i else none
 let κc : Nat → Option (Nat × Nat × Nat) := fun j => if j < k.length then G.κ j else none
 let Oc : Nat → Option (Nat ⊕ Nat) := open Classical in fun b => match G.O b with
  | none => none
  | some (.inl i) => if (∃ x, H[i]? = some x ∧ x ≠ .dead) then some (.inl i) else none
  | some (.inr j) => if (∃ x, k[j]? = some (x + 1)) then some (.inr j) else none
 let Bc : Base := { F := G.F, O := Oc, w := w, nt := fn.ntmps, ι := ιc, κ := κc, nb := H.length, nk := k.length }
 let Gc : Gh := { F := G.F, ι := ιc, κ := κc, O := Oc }
 have hιc : ∀ i, i < H.length → ιc i = G.ι i := fun i hi => if_pos hi
 have hκc : ∀ j, j < k.length → κc j = G.κ j := fun j hj => if_pos hj
 have hOc : ∀ b x, Oc b = some x → G.O b = some x := fun b x hx => by
  simp only [Oc] at hx
  cases hb : G.O b with
  | none => rw [hb] at hx; cases hx
  | some y =>
   rw [hb] at hx
   cases y with
   | inl i =>
    simp only at hx
    split at hx
    ·exact hx
    ·cases hx
   | inr j =>
    simp only at hx
    split at hx
    ·exact hx
    ·cases hx
 have hOi : ∀ b i x, x ≠ .dead → G.O b = some (.inl i) → H[i]? = some x → Oc b = some (.inl i) := fun b i x hx h1 h2 => by
  simp only [Oc, h1]; rw [if_pos ⟨x, h2, hx⟩]
 have hOj : ∀ b j x, G.O b = some (.inr j) → k[j]? = some (x + 1) → Oc b = some (.inr j) := fun b j x h1 h2 => by
  simp only [Oc, h1]; rw [if_pos ⟨x, h2⟩]
 have hrepI : ∀ v c, Rep G.F w G.ι v c → IdP (aliveP H) c → Rep G.F w ιc v c := fun v c h1 h2 => h1.idP _ _ h2 fun i g hi h => by rw [hιc i (hlt i hi)]; exact h
 have hconc : Conc E Bc Gc w { tmps := vals.toArray ++ Array.replicate (fn.ntmps - vals.toArray.size) undef, defers := [] } (St.initW args H k) := by
  refine ⟨⟨hgd.fin, fun b i hi => hgd.own b i (hOc b i hi), Nat.le_refl _, fun b _ hn => ⟨hn, rfl⟩, fun b o hb => ⟨hb, rfl⟩, fun b o hb => .inl hb, rfl, rfl, rfl, hgd.glob, hgd.gb, fun i g hi => ⟨?_, hi⟩, fun j r hj => ⟨?_, hj⟩⟩, by simp [Bc]; omega, rfl, fun l => ?_⟩
  ·rcases Nat.lt_or_ge i H.length with hh | hh
   ·exact hh
   ·simp only [Bc, ιc, if_neg (show ¬ i < H.length by omega)] at hi; cases hi
  ·rcases Nat.lt_or_ge j k.length with hh | hh
   ·exact hh
   ·simp only [Bc, κc, if_neg (show ¬ j < k.length by omega)] at hj; cases hj
  cases l with
  | slot t =>
   refine ⟨?_, trivial⟩
   simp only [St.initW]
   rcases Nat.lt_or_ge t args.length with ht | ht
   ·have h1 : args.getD t .any = args[t] := by simp [List.getD, ht]
    have h2 : (vals.toArray ++ Array.replicate (fn.ntmps - vals.toArray.size) undef).getD t undef = vals[t]'(by omega) := by
     rw [Array.getD_eq_getD_getElem?, Array.getElem?_append_left (by simp; omega)]
     simp [show t < vals.length by omega]
    rw [h1, h2]
    exact hrepI _ _ (hr t _ _ (List.getElem?_eq_getElem _) (List.getElem?_eq_getElem ht)) (pa _ (List.getElem_mem _))
   ·have h1 : args.getD t .any = .any := by simp [List.getD, List.getElem?_eq_none ht]
    rw [h1]; exact .any ..
  | obj i =>
   simp only [RepL, St.initW]
   cases hi : H[i]? with
   | none =>
    have : H.length ≤ i := by
     rcases Nat.lt_or_ge i H.length with hh | hh
     ·rw [List.getElem?_eq_getElem hh] at hi; cases hi
     ·exact hh
    show (if _ then _ else _) = _
    rw [if_neg (by omega)]
   | some y => cases y with
    | dead => trivial
    | mp es =>
     have h0 := hN (.obj i) (wLocs_obj.2 ⟨_, hi, by simp⟩)
     simp only [RepH, hi] at h0
     obtain ⟨g, i1, i2, i3, i4⟩ := h0
     exact ⟨g, (hιc i (List.getElem?_eq_some_iff.1 hi).1).trans i1, hOi g i _ (by simp) i2 hi, i3, i4.keep (fun _ _ h => h) (fun _ _ _ => rfl) (fun k hk => ⟨hOi k i _ (by simp) hk hi, rfl, fun _ h => h⟩) rfl⟩
    | cells t cs tg =>
     have h0 := hN (.obj i) (wLocs_obj.2 ⟨_, hi, by simp⟩)
     simp only [RepH, hi] at h0
     refine h0.imp id fun ⟨g, i1, i2, i3, vs, fz, i4, i5, i6, i7⟩ => ?_
     refine ⟨g, (hιc i (List.getElem?_eq_some_iff.1 hi).1).trans i1, hOi g i _ (by simp) i2 hi, i3, vs, fz, i4, i5, i6, fun j c hc => ?_⟩
     obtain ⟨v, v1, v2, v3⟩ := i7 j c hc
     refine ⟨v, v1, v2, hrepI _ _ v3.1 ((pH i t cs tg hi).1 c (List.mem_of_getElem? hc)), ?_⟩
     have h3 := v3.2
     cases ht : tg.lookup j with
     | none => trivial
     | some i' =>
      rw [ht] at h3
      have hi' : i' < k.length := by
       rcases (pH i t cs tg hi).2 j i' ht with ⟨x, hx⟩ | ⟨h1, h2⟩
       ·exact (List.getElem?_eq_some_iff.1 hx).1
       ·omega
      rcases h3 with ⟨sz, xs, n, cap, g2, lo, hi2, ad, t1, t2, t3, t4⟩ | h3
      ·exact .inl ⟨sz, xs, n, cap, g2, lo, hi2, ad, t1, t2, by rw [← t3]; exact hκc i' hi', t4⟩
      ·exact .inr h3
  | tok j =>
   simp only [RepL, St.initW]
   cases hj : k[j]? with
   | none =>
    have : k.length ≤ j := by
     rcases Nat.lt_or_ge j k.length with hh | hh
     ·rw [List.getElem?_eq_getElem hh] at hj; cases hj
     ·exact hh
    show (if _ then _ else _) = _
    rw [if_neg (by omega)]
   | some x =>
    have hjl := (List.getElem?_eq_some_iff.1 hj).1
    match x, hj with
    | 0, _ => trivial
    | 1, hj =>
     have h0 := hN (.tok j) (wLocs_tok.2 (.inl ⟨0, hj⟩))
     simp only [RepH, hj] at h0
     obtain ⟨g, lo, hi, h1, h2⟩ := h0
     exact ⟨g, lo, hi, (hκc j hjl).trans h1, fun hlt => ⟨hOj g j _ (h2 hlt).1 hj, (h2 hlt).2⟩⟩
    | x + 2, hj =>
     have h0 := hN (.tok j) (wLocs_tok.2 (.inl ⟨x + 1, hj⟩))
     simp only [RepH, hj] at h0
     obtain ⟨g, lo, h1⟩ := h0
     exact ⟨g, lo, (hκc j hjl).trans h1⟩
 refine calls_of_wp hf hb (wp_mono (evK_ok (C := ⟨E, P, T, rows, H.length, k.length⟩) hT hm (B := Bc) rfl rfl code _ _ hck (h hwf) Gc w _ hconc) fun e a w' hp => ?_)
 obtain ⟨st, G1, hk, hst1⟩ := hp
 have hend : (∃ L, Gho E H.length k.length st (St.of L H' k') ∧ resE T (St.of L H' k') fn.results.toList (fun l => packR l = r) ∧ tagRes L fn.results.toList = tag) → a.defers = [] ∧ ∃ v, (results fn a.tmps).run P w' = .ok v w' ∧
   ∃ v' G', Ending.returned v = .returned v' ∧ Good E B G' w' ∧ FrH G w G' w' (wLocs H k (k'.length - k.length)) ∧ RepSlot G' w' v' r tag ∧ ∀ l, l ∈ wLocs H k (k'.length - k.length) → RepH G' w' H' k' l := by
  rintro ⟨L, hgho, hres, htag⟩
  refine ⟨hst1.defers, ?_⟩
  obtain ⟨G2, hst⟩ := hgho Bc G1 w' a rfl rfl hst1
  obtain ⟨l, hq, vs, hrun, hlen, hrep⟩ := resE_ok hT hst _ _ hres
  have hgood := hst.good
  have hold : ∀ b, b < w.heap.size → Oc b = none → G2.O b = none ∧ w'.heap[b]? = w.heap[b]? := hgood.old
  have hids : ∀ i g, ιc i = some g → G2.ι i = some g := fun i g hi => (hgood.ids i g hi).2
  have htoks : ∀ j r, κc j = some r → G2.κ j = some r := fun j r hj => (hgood.toks j r hj).2
  let κ' : Nat → Option (Nat × Nat × Nat) := fun j => if k.length ≤ j ∧ j < k'.length then G2.κ j else G.κ j
  let O' : Nat → Option (Nat ⊕ Nat) := fun b => match Oc b, G.O b with
   | none, some x => some x
   | _, _ => G2.O b
  let G' : Gh := { F := G2.F, ι := G.ι, κ := κ', O := O' }
  have hO1 : ∀ b x, G.O b = some x → Oc b = none → O' b = some x := fun b x h1 h2 => by simp only [O', h1, h2]
  have hO2 : ∀ b, (Oc b = none → G.O b = none) → O' b = G2.O b := fun b hh => by
   simp only [O']
   cases h1 : Oc b with
   | none => rw [hh h1]
   | some x => rfl
  have hO3 : ∀ b x, O' b = some x → (G.O b = some x ∧ Oc b = none) ∨ G2.O b = some x := fun b x hx => by
   simp only [O'] at hx
   split at hx
   ·rename_i y h1 h2; injection hx with hx; subst hx; exact .inl ⟨h2, h1⟩
   ·exact .inr hx
  have hOw : ∀ b x, G2.O b = some x → Oc b = none → w.heap.size ≤ b := fun b x h1 h2 => by
   rcases Nat.lt_or_ge b w.heap.size with hh | hh
   ·rw [(hold b hh h2).1] at h1; cases h1
   ·exact hh
  have hO4 : ∀ b x, G2.O b = some x → O' b = some x := fun b x hx => by
   rw [hO2 b fun h1 => ?_]; exact hx
   cases h2 : G.O b with
   | none => rfl
   | some y => have := (hgd.own b y h2).1; have := hOw b x hx h1; omega
  have hext : Ext G w G' w' := ⟨fun b o hb => (hgood.keep b o hb).1, fun _ _ h => h, fun j r hj => by
   show (if _ then _ else _) = _
   split
   ·rename_i hh
    have h0 := hN (.tok j) (wLocs_tok.2 (.inr ⟨hh.1, by omega⟩))
    simp only [RepH, List.getElem?_eq_none hh.1, RepTok] at h0
    rw [h0] at hj; cases hj
   ·exact hj, fun b o hb => (hgood.keep b o hb).2⟩
  have hFn : ∀ b o, G2.F b o → G.F b o ∨ w.heap.size ≤ b ∨ Oc b ≠ none := hgood.new
  have hιg : ∀ i g, aliveP H i → G2.ι i = some g → G.ι i = some g := fun i g ⟨t, c, cs, tg, hi⟩ hg => by
   have h0 := hN (.obj i) (wLocs_obj.2 ⟨_, hi, by simp⟩)
   simp only [RepH, hi] at h0
   obtain ⟨g0, h1, _⟩ := h0.resolve_left (by simp)
   have h2 := hids i g0 ((hιc i (hlt i ⟨t, c, cs, tg, hi⟩)).trans h1)
   rw [h2] at hg; injection hg with hg; subst hg; exact h1
  have hκg : ∀ j r, tokP k k'.length j → G2.κ j = some r → κ' j = some r := fun j r hj hr => by
   rcases hj with ⟨x, hj⟩ | hj
   ·have hjl := (List.getElem?_eq_some_iff.1 hj).1
    have h0 := hN (.tok j) (wLocs_tok.2 (.inl ⟨x, hj⟩))
    simp only [RepH, hj] at h0
    have hsome : ∃ r0, G.κ j = some r0 := by
     cases x with
     | zero => obtain ⟨g, lo, hi, h1, _⟩ := h0; exact ⟨_, h1⟩
     | succ x => obtain ⟨g, lo, h1⟩ := h0; exact ⟨_, h1⟩
    obtain ⟨r0, hr0⟩ := hsome
    have h2 := htoks j r0 ((hκc j hjl).trans hr0)
    rw [h2] at hr; injection hr with hr; subst hr
    show (if _ then _ else _) = _
    rw [if_neg (by omega)]; exact hr0
   ·show (if _ then _ else _) = _
    rw [if_pos hj]; exact hr
  have hrep' : ∀ v c tg, RepSlot G2 w' v c tg → IdP (aliveP H) c → (∀ i, tg = some i → tokP k k'.length i) → RepSlot G' w' v c tg := fun v c tg h1 h2 h3 => by
   refine ⟨h1.1.idP _ _ h2 hιg, ?_⟩
   cases tg with
   | none => trivial
   | some i =>
    rcases h1.2 with ⟨sz, xs, n, cap, g2, lo, hi2, ad, t1, t2, t3, t4⟩ | h4
    ·exact .inl ⟨sz, xs, n, cap, g2, lo, hi2, ad, t1, t2, hκg i _ (h3 i rfl) t3, t4⟩
    ·exact .inr h4
  have hg' : Good E B G' w' := by
   refine ⟨hgood.fin, fun b x hx => ?_, Nat.le_trans hgd.size hgood.size, fun b hb hn => ?_, fun b o hb => ?_, fun b o hb => ?_, hgood.os.trans hgd.os, hgood.tape.trans hgd.tape, hgood.output.trans hgd.output, hgood.glob, hgood.gb, fun i g hi => ⟨(hgd.ids i g hi).1, hext.ι _ _ (hgd.ids i g hi).2⟩, fun j r hj => ⟨(hgd.toks j r hj).1, hext.κ _ _ (hgd.toks j r hj).2⟩⟩
   ·rcases hO3 b x hx with ⟨h1, _⟩ | h1
    ·exact ⟨Nat.lt_of_lt_of_le (hgd.own b x h1).1 hgood.size, (hgd.own b x h1).2⟩
    ·exact hgood.own b x h1
   ·obtain ⟨h1, h2⟩ := hgd.old b hb hn
    have hc : Oc b = none := by
     cases h3 : Oc b with
     | none => rfl
     | some x => rw [hOc b x h3] at h1; cases h1
    obtain ⟨h3, h4⟩ := hold b (Nat.lt_of_lt_of_le hb hgd.size) hc
    exact ⟨(hO2 b fun _ => h1).trans h3, h4.trans h2⟩
   ·obtain ⟨h1, h2⟩ := hgd.keep b o hb
    obtain ⟨h3, h4⟩ := hgood.keep b o h1
    exact ⟨h3, h4.trans h2⟩
   ·rcases hFn b o hb with h1 | h1 | h1
    ·exact hgd.new b o h1
    ·exact .inr (.inl (Nat.le_trans hgd.size h1))
    ·rcases Nat.lt_or_ge b B.w.heap.size with hh | hh
     ·refine .inr (.inr fun hn => h1 ?_)
      cases h3 : Oc b with
      | none => rfl
      | some x => have := hOc b x h3; rw [(hgd.old b hh hn).1] at this; cases this
     ·exact .inr (.inl hh)
  have hown1 : ∀ i g, G.O g = some (.inl i) → .obj i ∉ wLocs H k (k'.length - k.length) → O' g = some (.inl i) ∧ w'.heap[g]? = w.heap[g]? ∧ ∀ x, G2.F g x → G.F g x := fun i g i2 hi => by
   have hoc : Oc g = none := by
    cases h3 : Oc g with
    | none => rfl
    | some x =>
     have h4 := hOc g x h3
     rw [i2] at h4; injection h4 with h4; subst h4
     simp only [Oc, i2] at h3
     split at h3
     ·rename_i hh; exact absurd (wLocs_obj.2 hh) hi
     ·cases h3
   have hgl := (hgd.own g _ i2).1
   refine ⟨hO1 g _ i2 hoc, (hold g hgl hoc).2, fun x hx => ?_⟩
   rcases hFn g x hx with h1 | h1 | h1
   ·exact h1
   ·omega
   ·exact absurd hoc h1
  refine ⟨_, run_results fn a.tmps w' hrun, _, G', rfl, hg', ⟨hext, fun i c hi hc => ?_, fun j c hj hc => ?_⟩, hrep' _ _ _ ⟨?_, ?_⟩ pr pt, fun l hl => ?_⟩
  · -- objects of the caller's own
   cases c with
   | none => exact hc
   | some y => cases y with
    | dead => trivial
    | mp es =>
     obtain ⟨g, i1, i2, i3, i4⟩ := hc
     obtain ⟨k1, k2, k3⟩ := hown1 i g i2 hi
     exact ⟨g, i1, k1, fun x hx => i3 x (k3 x hx), i4.keep hext.F hext.w (fun k hk => hown1 i k hk hi) k2⟩
    | cells t cs tg =>
     refine hc.imp id fun ⟨g, i1, i2, i3, vs, fz, i4, i5, i6, i7⟩ => ?_
     obtain ⟨k1, k2, k3⟩ := hown1 i g i2 hi
     refine ⟨g, i1, k1, fun x hx => i3 x (k3 x hx), vs, fz, k2.trans i4, i5, i6, fun j c hc => ?_⟩
     ·obtain ⟨v, v1, v2, v3⟩ := i7 j c hc
      exact ⟨v, v1, v2, v3.ext hext⟩
  · -- tokens of the caller's own
   have hjn : ¬ (k.length ≤ j ∧ j < k'.length) := fun hh => hj (wLocs_tok.2 (.inr ⟨hh.1, by omega⟩))
   have hκj : κ' j = G.κ j := if_neg hjn
   match c, hc with
   | none, hc => exact hκj.trans hc
   | some 0, _ => trivial
   | some (x + 2), ⟨g, lo, h1⟩ => exact ⟨g, lo, hκj.trans h1⟩
   | some 1, ⟨g, lo, hi, h1, h2⟩ =>
    refine ⟨g, lo, hi, hκj.trans h1, fun hlt => ?_⟩
    obtain ⟨i2, i3, vs, t, fz, i4, i5⟩ := h2 hlt
    have hoc : Oc g = none := by
     cases h3 : Oc g with
     | none => rfl
     | some x =>
      have h4 := hOc g x h3
      rw [i2] at h4; injection h4 with h4; subst h4
      simp only [Oc, i2] at h3
      split at h3
      ·rename_i hh; obtain ⟨x, hh⟩ := hh; exact absurd (wLocs_tok.2 (.inl ⟨x, hh⟩)) hj
      ·cases h3
    have hgl := (hgd.own g _ i2).1
    refine ⟨hO1 g _ i2 hoc, fun x hx hf => ?_, vs, t, fz, by rw [(hold g hgl hoc).2]; exact i4, i5⟩
    rcases hFn g x hf with h1 | h1 | h1
    ·exact i3 x hx h1
    ·omega
    ·exact h1 hoc
  ·rw [← hq]; exact pack_rep hlen hrep
  · -- the result's token
   rw [← htag]
   unfold tagRes
   split
   ·rename_i t hrs
    have h1 : fn.results.toList.mapM (resV a.tmps) = (do let x ← resV a.tmps (.tmp t); pure [x]) := by rw [hrs]; rfl
    have hslot := hst.rep (.slot t)
    simp only [RepL] at hslot
    rw [h1] at hrun
    simp only [resV, Sem.run_bind, Sem.run_pure, Result.andThen_ok] at hrun
    injection hrun with hrun
    subst hrun
    rw [hrs] at hres
    have hl1 : ∃ x, l = [x] := by
     match l, hlen with
     | [x], _ => exact ⟨x, rfl⟩
    obtain ⟨x, rfl⟩ := hl1
    have hxr : (St.of L H' k').s t = r := by
     simp only [resE] at hres
     exact hres
    simp only [packV, ← hxr]
    exact hslot.2
   ·trivial
  · -- what was handed on
   cases l with
   | slot t => trivial
   | obj i =>
    have hobj := hst.rep (.obj i)
    simp only [RepL, St.of] at hobj
    obtain ⟨x0, hi0, hx0⟩ := wLocs_obj.1 hl
    have hil : i < H'.length := by rw [lH]; exact (List.getElem?_eq_some_iff.1 hi0).1
    simp only [RepH]
    cases hi : H'[i]? with
    | none => rw [List.getElem?_eq_getElem hil] at hi; cases hi
    | some y =>
     rw [hi] at hobj
     have hιi : ∀ g, G2.ι i = some g → G.ι i = some g := fun g hg => by
      have h0 := hN (.obj i) hl
      simp only [RepH, hi0] at h0
      have hex : ∃ g0, G.ι i = some g0 := by
       cases x0 with
       | dead => exact absurd rfl hx0
       | mp => obtain ⟨g0, h1, _⟩ := h0; exact ⟨g0, h1⟩
       | cells t0 cs0 tg0 =>
        cases cs0 with
        | nil => exact absurd hi0 (pE i t0 tg0)
        | cons c0 cs0 => obtain ⟨g0, h1, _⟩ := h0.resolve_left (by simp); exact ⟨g0, h1⟩
      obtain ⟨g0, h1⟩ := hex
      have h2 := hids i g0 ((hιc i (List.getElem?_eq_some_iff.1 hi0).1).trans h1)
      rw [h2] at hg; injection hg with hg; subst hg; exact h1
     cases y with
     | dead => trivial
     | mp es =>
      obtain ⟨g, i1, i2, i3, i4⟩ := hobj
      exact ⟨g, hιi g i1, hO4 g _ i2, i3, i4.keep (fun _ _ h => h) (fun _ _ _ => rfl) (fun k hk => ⟨hO4 k _ hk, rfl, fun _ h => h⟩) rfl⟩
     | cells t cs tg =>
      refine hobj.imp id fun ⟨g, i1, i2, i3, vs, fz, i4, i5, i6, i7⟩ => ?_
      refine ⟨g, ?_, hO4 g _ i2, i3, vs, fz, i4, i5, i6, fun j c hc => ?_⟩
      ·exact hιi g i1
      ·obtain ⟨v, v1, v2, v3⟩ := i7 j c hc
       exact ⟨v, v1, v2, hrep' _ _ _ v3 ((pH' i t cs tg hi).1 c (List.mem_of_getElem? hc)) fun i' h' => (pH' i t cs tg hi).2 j i' h'⟩
   | tok j =>
    have htok := hst.rep (.tok j)
    simp only [RepL, St.of] at htok
    simp only [RepH]
    have htp : tokP k k'.length j := (wLocs_tok.1 hl).imp id fun h => by omega
    cases hj : k'[j]? with
    | none =>
     rcases htp with ⟨x, hx⟩ | hx
     ·have := (List.getElem?_eq_some_iff.1 hx).1
      rw [List.getElem?_eq_getElem (by omega)] at hj; cases hj
     ·rw [List.getElem?_eq_getElem (by omega)] at hj; cases hj
    | some x =>
     rw [hj] at htok
     match x, htok with
     | 0, _ => trivial
     | 1, ⟨g, lo, hi, h1, h2⟩ => exact ⟨g, lo, hi, hκg j _ htp h1, fun hlt => ⟨hO4 g _ (h2 hlt).1, (h2 hlt).2⟩⟩
     | x + 2, ⟨g, lo, h1⟩ => exact ⟨g, lo, hκg j _ htp h1⟩
 cases e with
 | normal => exact hend hk
 | ret => exact hend hk
 | exit i => exact hk.elim
 | goto l => exact hk.elim
 | panic ch => exact hk.elim
 | outgrown => exact hk.elim
end Go.Pm
