/-
  Generic: the evaluator over operations and regions.
-/
import Derived.Test.YtommkfooolabhaaGreatDoorPm13
namespace Go.Pm
open Go Go.RowKit
set_option linter.unusedVariables false
set_option linter.unusedSimpArgs false
structure Cx where
  E : Env
  P : Program
  T : Tab
  rows : List Nat
  nb : Nat := 0
  nk : Nat := 0
def strBytes (T : Tab) (src dst : TypeId) : Bool :=
  match T.at src, T.at dst with
  | some si, some di => match si.desc, di.desc with
    | .string, .slice _ => true
    | _, _ => false
  | _, _ => false
section
variable {E : Env} {P : Program} {T : Tab} {st : St} {o : Oper} {g : Bool}
def evBytes0 (T : Tab) (st : St) (g : Bool) (src dst : TypeId) (x : Operand) (k : AV → Option Nat → List Loc → Prop) : Prop :=
  unc g (evV T st src x) fun a => match a, T.at src, T.at dst with
    | .str s, some si, some di => match si.desc, di.desc with
      | .string, .slice e => ((T.at e).any (fun ti => ti.desc matches .int .u8) = true ∧ Nat.beq di.esz 1 = true) ∧ k (.list 1 (s.map byteAV)) none (opN x)
      | _, _ => False
    | _, _, _ => False
theorem evBytes0_ok (hT : TOk P T) {src dst : TypeId} {x : Operand} {k : AV → Option Nat → List Loc → Prop} (hc : constOk T o = true) (ho : o.op = .convert src dst x) (h : evBytes0 T st g src dst x k) : Yld E P st o g k := by
  unfold evBytes0 at h
  obtain ⟨a', h, ha'⟩ := unc_ok h
  split at h
  · rename_i s si di hsi hdi
    split at h
    · rename_i e h1 h2
      obtain ⟨⟨hb, _⟩, h⟩ := h
      refine ⟨_, none, _, h, fun hgg => ⟨by simp, fun l _ => by cases l <;> trivial, fun B G w a hg hN K Q hK => ?_⟩⟩
      have r1 := ha' hgg _ _ _ _ (evV_ok (T := T) hg (constOk.at hc (ty := src) (x := x) (by simp [opcs, ho])) hN).1
      have hv : a.eval x = .string ⟨s.toArray⟩ ∧ s.length ≤ maxLen := by
        generalize a.eval x = v at *
        cases r1 with | str _ _ hl => exact ⟨rfl, hl⟩
      have hge := grownCap_ge w s.length 0 e
      have hle := grownCap_le_maxLen w s.length 0 e hv.2
      have hsize := bytesRow_size s (grownCap w s.length 0 e) hge
      have hgr := grown1_drew w (.cells (bytesRow ⟨s.toArray⟩ (grownCap w s.length 0 e)) e ((bytesRow ⟨s.toArray⟩ (grownCap w s.length 0 e)).size, (bytesRow ⟨s.toArray⟩ (grownCap w s.length 0 e)).size + 1))
      have hbel : Below w.heap.size w (w.drew.alloc (.cells (bytesRow ⟨s.toArray⟩ (grownCap w s.length 0 e)) e ((bytesRow ⟨s.toArray⟩ (grownCap w s.length 0 e)).size, (bytesRow ⟨s.toArray⟩ (grownCap w s.length 0 e)).size + 1))) :=
        ⟨rfl, rfl, rfl, by rw [hgr.size]; omega, fun b hb => hgr.old b hb⟩
      obtain ⟨g1, g2⟩ := below_good hg (F' := fun b o => G.F b o ∨ (b = w.heap.size ∧ o < s.length)) hbel (fun _ _ h => .inl h) (fun b o hb => by
        rw [hgr.size]
        rcases hb with hb | ⟨hb, _⟩
        · exact ⟨by have := hg.fin b o hb; omega, .inl hb⟩
        · exact ⟨by omega, .inr (by omega)⟩)
      unfold Oper.wp
      rw [evBytes_run hT ho hsi hdi h1 h2 hb a w hv.1]
      refine hK _ _ _ g1 g2 ⟨?_, trivial⟩ (by simp)
      refine Rep.list_of (by simp) hge hle (fun e he => by obtain ⟨b, _, rfl⟩ := List.mem_map.1 he; rfl) (fun j hj => .inr ⟨rfl, by simp at hj; omega⟩) fun i el j c hi hj => ?_
      have hi' : s[i]?.map byteAV = some el := by simpa using hi
      cases hs : s[i]? with
      | none => rw [hs] at hi'; cases hi'
      | some b =>
        rw [hs] at hi'
        simp only [Option.map_some, Option.some.injEq] at hi'
        subst hi'
        cases j with
        | zero =>
          simp only [byteAV, AV.cells, List.getElem?_cons_zero, Option.some.injEq] at hj
          subst hj
          refine ⟨_, ?_, rfl, .int _ _ _ (u8_wrap b)⟩
          rw [cell_at hgr.new, Nat.mul_one, Nat.add_zero, Nat.zero_add]
          exact bytesRow_get s _ hge i b hs
        | succ j => simp [byteAV, AV.cells] at hj
    · exact h.elim
  · exact h.elim
end
def pureOp (T : Tab) (o : Oper) : Bool :=
  match o.op with
  | .move (.const (.slice none 0 0)) | .assign (.const (.slice none 0 0)) => false
  | .move _ | .assign _ | .pick .. | .binOp .. | .unOp .. | .load .. | .fieldAddr .. | .field .. | .indexAddr .. | .index .. | .lookup .. | .extract .. | .makeInterface .. | .typeAssert .. | .makeFunc .. | .nilCheck _ | .build .. => true
  | .convert src dst _ => !strBytes T src dst || o.guard.isSome
  | .slice _ _ _ _ mx => mx.isNone
  | .call { callee := .builtin .len, .. } | .call { callee := .builtin .min, .. } | .call { callee := .builtin .max, .. } => true
  | .call { callee := .value _, .. } => o.guard.isSome
  | _ => false
def isStrT (T : Tab) (t : TypeId) : Bool := match T.at t with | some ti => (match ti.desc with | .string => true | _ => false) | none => false
def isMapT (T : Tab) (t : TypeId) : Bool := match T.at t with | some ti => (match ti.desc with | .map _ _ => true | _ => false) | none => false
def evP (C : Cx) (st : St) (g : Bool) (o : Oper) (k : AV → Option Nat → List Loc → Prop) : Prop :=
  match o.op with
  | .move x | .assign x => evMove C.T st g o.type x k
  | .pick c x y => evPick C.T st g o.type c x y k
  | .binOp op t x y _ => evBin C.T st g op t x y k
  | .unOp op t x => evUn C.T st g op t x k
  | .load t x => evLoad C.T st g t x k
  | .fieldAddr t x n => evFieldAddr C.T st g t x n k
  | .field t x n => evField C.T st g t x n k
  | .indexAddr t x i => evIndexAddr C.T st g t x i k
  | .index t x i => evIndex C.T st g t x i k
  | .lookup t m i ok => evLookup C.T st g t m i ok k
  | .extract x n => evExtract C.T st g x n k
  | .makeInterface t x => evMakeIface C.T st t x k
  | .typeAssert x _ t ok => evAssert C.T st x t ok k
  | .makeFunc fn a b => evMakeFunc C.T st fn a.toList b.toList k
  | .nilCheck x => evNilCheck C.T st g x k
  | .build t ps => evBuild C.T st g t ps.toList k
  | .convert src dst x => match strBytes C.T src dst with
    | true => evBytes0 C.T st g src dst x k
    | false => match isIntT C.T src && isStrT C.T dst with
      | true => evRune C.T st g src dst x k
      | false => evConv C.T st g src dst x k
  | .slice t x lo hi none => evSlice C.T st g t x lo hi k
  | .call { callee := .builtin .len, args := ⟨[x]⟩, argTypes := ⟨[t]⟩ } => match isMapT C.T t with
    | false => evLen C.T st g t x k
    | true => evLenM C.T st g t x k
  | .call { callee := .builtin .min, args := ⟨[x, y]⟩, argTypes := ⟨[tx, ty]⟩ } => evMinMax C.T st g false tx ty x y k
  | .call { callee := .builtin .max, args := ⟨[x, y]⟩, argTypes := ⟨[tx, ty]⟩ } => evMinMax C.T st g true tx ty x y k
  | .call { callee := .value f, args := args, argTypes := tys } => evCallP C.E C.P C.T st g f (tys.toList.zip args.toList) k
  | _ => False
def evH (C : Cx) (st : St) (o : Oper) (k : KH) : Prop :=
  match o.op with
  | .move (.const (.slice none 0 0)) | .assign (.const (.slice none 0 0)) => match C.rows.contains (o.dst.getD 0) with
    | true => evNilRow C.T st o.type k
    | false => evNil C.T st o.type k
  | .alloc t => match C.rows.contains (o.dst.getD 0) with
    | true => evAllocB C.T st t k
    | false => evAlloc C.T st t k
  | .box t x => evBox C.T st t x k
  | .makeMap _ none => evMakeMap st k
  | .range t x => evRange C.T st t x k
  | .next x true => evNext C.T st x k
  | .insert t m i x => evInsert C.T st t m i x k
  | .mapUpdate t m i x => evInsert C.T st t m i x k
  | .buildSlice t n ps => evBuildSlice C.T st t n ps.toList k
  | .convert src dst x => match C.rows.contains (o.dst.getD 0) with
    | true => evBytesRow C.T st src dst x k
    | false => evBytes C.T st src dst x k
  | .store t a v => match C.rows.contains (o.dst.getD 999999) with
    | true => evStoreP C.T st t a v k
    | false => evStore C.T st t a v k
  | .slice t x lo (some hi) (some mx) => match C.rows.contains (o.dst.getD 0) with
    | true => evClipR C.T st t x lo hi mx k
    | false => evClip C.T st t x lo hi mx k
  | .slice t x lo hi none => evSliceR C.T st t x lo hi k
  | .call { callee := .builtin .clear, args := ⟨[x]⟩, argTypes := ⟨[t]⟩ } => evClear C.T st t x k
  | .call { callee := .builtin .append, args := ⟨[s, x]⟩, argTypes := ⟨[ts, tx]⟩ } => match C.rows.contains (o.dst.getD 0) with
    | true => match evV C.T st ts s with
      | .rowR .. => evAppendSelf C.T st ts tx s x k
      | .row .. => evAppendGrow C.T st ts tx s x k
      | _ => evAppendRow C.T st ts tx s x k
    | false => evAppend C.T st ts tx s x k
  | .call { callee := .value f, args := args, argTypes := tys } => evCallH C.E C.P C.T st f (tys.toList.zip args.toList) k
  | _ => False
def opOk (T : Tab) (o : Oper) : Bool := constOk T o && (match o.op with | .call c => Nat.beq c.argTypes.toList.length c.args.toList.length | _ => true)
theorem evP_ok {C : Cx} (hT : TOk C.P C.T) {st : St} {g : Bool} {o : Oper} {k : AV → Option Nat → List Loc → Prop} (hok : opOk C.T o = true) (h : evP C st g o k) : Yld C.E C.P st o g k := by
  simp only [opOk, Bool.and_eq_true] at hok
  obtain ⟨hc, hl⟩ := hok
  unfold evP at h
  split at h
  · rename_i x ho; exact evMove_ok hc (.inl ho) h
  · rename_i x ho; exact evMove_ok hc (.inr ho) h
  · rename_i ho; exact evPick_ok hc ho h
  · rename_i ho; exact evBin_ok hT hc ho h
  · rename_i ho; exact evUn_ok hc ho h
  · rename_i ho; exact evLoad_ok hT hc ho h
  · rename_i ho; exact evFieldAddr_ok hT hc ho h
  · rename_i ho; exact evField_ok hT hc ho h
  · rename_i ho; exact evIndexAddr_ok hT hc ho h
  · rename_i ho; exact evIndex_ok hT hc ho h
  · rename_i ho; exact evLookup_ok hT hc ho h
  · rename_i ho; exact evExtract_ok hc ho h
  · rename_i ho; exact evMakeIface_ok hT hc ho h
  · rename_i ho; exact evAssert_ok hT hc ho h
  · rename_i ho; exact evMakeFunc_ok hc ho h
  · rename_i ho; exact evNilCheck_ok hc ho h
  · rename_i ho; exact evBuild_ok hT hc ho h
  · rename_i ho
    split at h
    · exact evBytes0_ok hT hc ho h
    · split at h
      · exact evRune_ok hT hc ho h
      · exact evConv_ok hT hc ho h
  · rename_i ho; exact evSlice_ok hT hc ho h
  · rename_i ho
    split at h
    · exact evLen_ok hT hc ho h
    · exact evLenM_ok hT hc ho h
  · rename_i ho; exact evMinMax_ok (mx := false) hc ho h
  · rename_i ho; exact evMinMax_ok (mx := true) hc ho h
  · rename_i ho
    rw [ho] at hl
    exact evCallP_ok (Nat.eq_of_beq_eq_true hl) hc ho h
  · exact h.elim
theorem evH_ok {C : Cx} (hT : TOk C.P C.T) {st : St} {o : Oper} {k : KH} (hok : opOk C.T o = true) (h : evH C st o k) : YldH C.E C.P st o k := by
  simp only [opOk, Bool.and_eq_true] at hok
  obtain ⟨hc, hl⟩ := hok
  unfold evH at h
  split at h
  · rename_i ho
    split at h
    · exact evNilRow_ok (.inl ho) h
    · exact evNil_ok (.inl ho) h
  · rename_i ho
    split at h
    · exact evNilRow_ok (.inr ho) h
    · exact evNil_ok (.inr ho) h
  · rename_i ho
    split at h
    · exact evAllocB_ok hT ho h
    · exact evAlloc_ok hT ho h
  · rename_i ho; exact evBox_ok hc ho h
  · rename_i ho; exact evMakeMap_ok ho h
  · rename_i ho; exact evRange_ok hT hc ho h
  · rename_i ho; exact evNext_ok (ty := 0) hc ho h
  · rename_i ho; exact evInsert_ok hT hc (.inl ho) h
  · rename_i ho; exact evInsert_ok hT hc (.inr ho) h
  · rename_i ho; exact evBuildSlice_ok hT hc ho h
  · rename_i ho
    split at h
    · exact evBytesRow_ok hT hc ho h
    · exact evBytes_ok hT hc ho h
  · rename_i ho
    split at h
    · exact evStoreP_ok hT hc ho h
    · exact evStore_ok hT hc ho h
  · rename_i ho
    split at h
    · exact evClipR_ok hT hc ho h
    · exact evClip_ok hT hc ho h
  · rename_i ho; exact evSliceR_ok hT hc ho h
  · rename_i ho; exact evClear_ok hT hc ho h
  · rename_i ho
    split at h
    · split at h
      · exact evAppendSelf_ok hT hc ho h
      · exact evAppendGrow_ok hT hc ho h
      · exact evAppendRow_ok hT hc ho h
    · exact evAppend_ok hT hc ho h
  · rename_i ho
    rw [ho] at hl
    exact evCallH_ok (Nat.eq_of_beq_eq_true hl) hc ho h
  · exact h.elim
inductive NormE (r : AV) (K : AV → Prop) : Prop
  | same (h : K r)
  | to (r' : AV) (he : Wf r → r = r') (h : K r')
def normE (b : Bool) (r : AV) (K : AV → Prop) : Prop :=
  match b with
  | true => NormE r K
  | false => K r
theorem normE_ok {b : Bool} {r : AV} {K : AV → Prop} (h : normE b r K) : ∃ r', K r' ∧ (Wf r → r = r') := by
  cases b with
  | false => exact ⟨r, h, fun _ => rfl⟩
  | true =>
    cases h with
    | same h => exact ⟨r, h, fun _ => rfl⟩
    | to r' he h => exact ⟨r', h, he⟩
def normOp (T : Tab) (o : Oper) : Bool :=
  match o.op with
  | .slice .. | .buildSlice .. => true
  | .call { callee := .builtin .len, .. } | .call { callee := .builtin .append, .. } => true
  | .binOp .add t _ _ _ => (match T.at t with | some ti => (match ti.desc with | .string => true | _ => false) | none => false)
  | .load t _ => (match T.at t with | some ti => isAggD ti.desc | none => false)
  | _ => false
theorem HFact.norm {E : Env} {P : Program} {st : St} {o : Oper} {r r' : AV} {tag : Option Nat} {H : List AObj} {k : List Nat} {N W : List Loc} (h : HFact E P st o r tag H k N W) (he : Wf r → r = r') : HFact E P st o r' tag H k N W :=
  ⟨h.noslot, h.same, fun B G w a hg hN K Q hK => h.run B G w a hg hN K Q fun G' w' v h1 h2 h3 h4 => hK G' w' v h1 h2 (by have := he h3.1.wf; rw [← this]; exact h3) h4⟩
def callV (o : Oper) : Bool :=
  match o.op with
  | .call { callee := .value _, .. } => true
  | _ => false
def sliceV (o : Oper) : Bool :=
  match o.op with
  | .slice .. => true
  | _ => false
def evOp (C : Cx) (ops : Array Oper) (o : Oper) (st : St) (K : St → List Loc → List Loc → Prop) : Prop :=
  match o.guard with
  | none => match pureOp C.T o && !(sliceV o && C.rows.contains (o.dst.getD 0)) with
    | true => evP C st true o fun r tag N => normE (normOp C.T o) r fun r => K (st.put o.dst r tag st.H st.k) N (dstW o.dst ++ [])
    | false => evH C st o fun r tag H k N W => normE (normOp C.T o) r fun r => K (st.put o.dst r tag H k) N (dstW o.dst ++ W)
  | some _ => guardE ops o st fun g => match pureOp C.T o && !(callV o && C.rows.contains (o.dst.getD 0)) with
    | true => evP C st g o fun r _ N => normE (normOp C.T o) r fun r => K (st.put o.dst (.cond g r) none st.H st.k) (guardN ops o ++ N) (dstW o.dst ++ [])
    | false => (g = true → evH C st o fun r tag H k N W => normE (normOp C.T o) r fun r => K (st.put o.dst r tag H k) (guardN ops o ++ N) (dstW o.dst ++ W)) ∧
        (g = false → ∃ a, K (st.put o.dst (.cond false a) none st.H st.k) (guardN ops o) (dstW o.dst ++ []))
theorem evOp_ok {C : Cx} (hT : TOk C.P C.T) {ops : Array Oper} {st : St} {o : Oper} {K : St → List Loc → List Loc → Prop} (hok : opOk C.T o = true) (h : evOp C ops o st K) :
    ∃ st' N W, K st' N W ∧ StepFact C.E C.P ops o st st' N W := by
  unfold evOp at h
  split at h
  · rename_i hg
    have hgn : guardN ops o = [] := by simp [guardN, guardT, hg]
    have hw : ∀ (G : Gh) (w : World) (a : Act), (∀ l, l ∈ guardN ops o → RepL G w a l st) → Region.wanted o (yielded ops a.tmps) = true := fun _ _ _ _ => by simp [Region.wanted, hg]
    split at h
    · obtain ⟨r, tag, N, h, hf⟩ := evP_ok hT hok h
      obtain ⟨r', h, he⟩ := normE_ok h
      have := step_do hw ((hf rfl).norm he)
      rw [hgn] at this
      exact ⟨_, _, _, h, this⟩
    · obtain ⟨r, tag, H, k, N, W, h, hf⟩ := evH_ok hT hok h
      obtain ⟨r', h, he⟩ := normE_ok h
      have := step_do hw (hf.norm he)
      rw [hgn] at this
      exact ⟨_, _, _, h, this⟩
  · obtain ⟨g, h, _, hw⟩ := guardE_ok h
    split at h
    · obtain ⟨r, tag, N, h, hf⟩ := evP_ok hT hok h
      obtain ⟨r', h, he⟩ := normE_ok h
      exact ⟨_, _, _, h, step_cond hw fun hgt => ⟨tag, (hf hgt).norm he⟩⟩
    · cases g with
      | true =>
        obtain ⟨r, tag, H, k, N, W, h, hf⟩ := evH_ok hT hok (h.1 rfl)
        obtain ⟨r', h, he⟩ := normE_ok h
        exact ⟨_, _, _, h, step_do hw (hf.norm he)⟩
      | false =>
        obtain ⟨a, h⟩ := h.2 rfl
        exact ⟨_, _, _, h, step_skip hw _⟩
def evOps (C : Cx) (ops : Array Oper) : List Oper → St → List (List Loc × List Loc) → (St → List (List Loc × List Loc) → Prop) → Prop
  | [], st, ft, K => K st ft
  | o :: rest, st, ft, K => evOp C ops o st fun st' N W => evOps C ops rest st' (ft ++ [(N, W)]) K
theorem evOps_ok {C : Cx} (hT : TOk C.P C.T) {ops : Array Oper} : ∀ (l : List Oper) (st : St) (ft : List (List Loc × List Loc)) (K : St → List (List Loc × List Loc) → Prop), l.all (opOk C.T) = true → evOps C ops l st ft K →
    ∃ st' ft', K st' (ft ++ ft') ∧ Chain C.E C.P ops l st ft' st' := by
  intro l
  induction l with
  | nil => intro st ft K _ h; exact ⟨st, [], by rw [List.append_nil]; exact h, .nil st⟩
  | cons o rest ih =>
    intro st ft K hok h
    simp only [List.all_cons, Bool.and_eq_true] at hok
    obtain ⟨st1, N, W, h, hf⟩ := evOp_ok hT hok.1 h
    obtain ⟨st', ft', hk, hch⟩ := ih _ _ _ hok.2 h
    exact ⟨st', (N, W) :: ft', by simpa using hk, .cons _ _ _ _ _ _ _ _ hf hch⟩
def FnC (E : Env) (P : Program) (f : FuncId) (args : List AV) (ta : List (Option Nat)) (H : List AObj) (k : List Nat) (K : AV → Option Nat → List AObj → List Nat → Prop) : Prop :=
  bodied P f ∧ ∀ (B : Base) (G : Gh) (w : World) (vals : List Value), Good E B G w → (∀ i, RepObj G w i H[i]?) → (∀ i, RepTok G w i k[i]?) → vals.length = args.length →
    (∀ (i : Nat) (v : Value) (c : AV), vals[i]? = some v → args[i]? = some c → RepSlot G w v c (ta.getD i none)) →
    Calls P f vals.toArray w fun e w' => ∃ v r tag H' k' G', e = .returned v ∧ K r tag H' k' ∧ Good E B G' w' ∧ Ext G w G' w' ∧ (∀ i, RepObj G' w' i H'[i]?) ∧ (∀ i, RepTok G' w' i k'[i]?) ∧ RepSlot G' w' v r tag
def Gho (E : Env) (nb nk : Nat) (st st' : St) : Prop := ∀ (B : Base) (G : Gh) (w : World) (a : Act), B.nb = nb → B.nk = nk → Conc E B G w a st → ∃ G', Conc E B G' w a st'
theorem Gho.refl (E : Env) (nb nk : Nat) (st : St) : Gho E nb nk st st := fun _ G _ _ _ _ h => ⟨G, h⟩
theorem Gho.trans {E : Env} {nb nk : Nat} {a b c : St} (h : Gho E nb nk a b) (h' : Gho E nb nk b c) : Gho E nb nk a c := fun B G w x e1 e2 hx =>
  let ⟨_, h1⟩ := h B G w x e1 e2 hx
  h' B _ w x e1 e2 h1
theorem Gho.go {E : Env} {nb nk : Nat} {st : St} {P : St → Prop} (h : P st) : ∃ s, Gho E nb nk st s ∧ P s := ⟨st, .refl _ _ _ _, h⟩
def MethP (P : Program) (t : TypeId) (name : String) (f : FuncId) : Prop := ∀ (w : World) (b o : Nat) (args : Array Value),
  (callMethod (.iface t (.pointer (some ⟨b, o, none⟩))) name args).run P w = (callFunc f (#[.pointer (some ⟨b, o, none⟩)] ++ args)).run P w
def MethV (P : Program) (t : TypeId) (name : String) (f : FuncId) : Prop := ∀ (w : World) (b o : Nat) (v : Value) (args : Array Value), v.oneCell' = true → w.cell? ⟨b, o, none⟩ = some v →
  (callMethod (.iface t (.pointer (some ⟨b, o, none⟩))) name args).run P w = (callFunc f (#[v] ++ args)).run P w
theorem methV {P : Program} {t e : TypeId} {name : String} {f : FuncId}
    (h : ∀ (w : World) (b o : Nat) (args : Array Value), (callMethod (.iface t (.pointer (some ⟨b, o, none⟩))) name args).run P w = (do let r ← loadVar e ⟨b, o, none⟩; callFunc f (#[r] ++ args) : Sem Next).run P w)
    (h' : ∀ (w : World) (b o : Nat), (loadVar e ⟨b, o, none⟩).run P w = (load ⟨b, o, none⟩).run P w) : MethV P t name f := by
  intro w b o v args h1 h2
  rw [h, Sem.run_bind, h', run_load, h2]
  rfl
inductive Recv (P : Program) (H : List AObj) (t : TypeId) (id off : Nat) (name : String) (f : FuncId) : AV → Option Nat → Prop
  | ptr (h : MethP P t name f) : Recv P H t id off name f (.ptr id off) none
  | val (ty : TypeId) (cs : List AV) (tg : List (Nat × Nat)) (c : AV) (h : MethV P t name f) (ho : H[id]? = some (.cells ty cs tg)) (hc : cs[off]? = some c) : Recv P H t id off name f c (tg.lookup off)
theorem Gho.shrink {E : Env} {nb nk : Nat} {st : St} (id : Nat) {t : TypeId} {cs : List AV} {tg : List (Nat × Nat)} (cs' : List AV) {rest : List AV} (h : st.H[id]? = some (.cells t cs tg)) (e : cs = cs' ++ rest) :
    Gho E nb nk st { st with H := st.H.set id (.cells t cs' tg) } := fun B G w a _ _ hst => ⟨G, hst.good, hst.size, hst.defers, fun l => by
  cases l with
  | slot i => exact hst.rep (.slot i)
  | tok i => exact hst.rep (.tok i)
  | obj i =>
    have h0 := hst.rep (.obj i)
    show RepObj G w i ((st.H.set id (.cells t cs' tg))[i]?)
    rw [List.getElem?_set]
    by_cases hi : id = i
    · subst hi
      have hl : id < st.H.length := by
        rcases Nat.lt_or_ge id st.H.length with h1 | h1
        · exact h1
        · rw [List.getElem?_eq_none h1] at h; cases h
      rw [if_pos rfl, if_pos hl]
      simp only [RepL, h] at h0
      rcases h0 with ⟨h1, h2⟩ | ⟨g, i1, i2, i3, vals, fz, i4, i5, i6, i7⟩
      · rw [h1] at e
        exact .inl ⟨(List.append_eq_nil_iff.1 e.symm).1, h2⟩
      · refine .inr ⟨g, i1, i2, i3, vals, fz, i4, i5, ?_, fun j c hj => i7 j c ?_⟩
        · rw [e, List.length_append] at i6; omega
        · rw [e, List.getElem?_append_left (List.getElem?_eq_some_iff.1 hj).1]; exact hj
    · rw [if_neg hi]; exact h0⟩
def evInl (C : Cx) (st : St) (o : Oper) (K : St → Prop) : Prop :=
  match o.op with
  | .call { callee := .value f, args := args, argTypes := tys } => ∃ s, Gho C.E C.nb C.nk st s ∧ match evV C.T s 0 f with
    | .fn fid a b => FnC C.E C.P fid (a ++ (tys.toList.zip args.toList).map (fun x => evV C.T s x.1 x.2) ++ b) (tagsE s a (tys.toList.zip args.toList)) s.H s.k fun r tag H k => K (s.put o.dst r tag H k)
    | _ => False
  | .call { callee := .invoke x name, args := args, argTypes := tys } => ∃ s, Gho C.E C.nb C.nk st s ∧ match evV C.T s 0 x with
    | .iface t (.ptr id off) => ∃ f c tc, Recv C.P s.H t id off name f c tc ∧
        FnC C.E C.P f (c :: (tys.toList.zip args.toList).map (fun x => evV C.T s x.1 x.2)) (tc :: (tys.toList.zip args.toList).map fun x => tgV s x.2) s.H s.k fun r tag H k => K (s.put o.dst r tag H k)
    | _ => False
  | .binOp .eql t x (.const (.slice none 0 0)) _ => match C.T.at t, evV C.T st t x with
    | some ti, .list _ xs => (match ti.desc with | .slice _ => True | _ => False) ∧ ∀ b, (b = true → xs = []) → K (st.put o.dst (.bool b) none st.H st.k)
    | _, _ => False
  | _ => False
def isNilOp (o : Oper) : Bool :=
  match o.op with
  | .binOp .eql _ _ (.const (.slice none 0 0)) _ => true
  | _ => false
def callI (o : Oper) : Bool :=
  match o.op with
  | .call { callee := .invoke _ _, .. } => true
  | _ => false
def inlOp (C : Cx) (o : Oper) : Bool := (callV o || callI o || isNilOp o) && (match o.guard with | none => C.rows.contains (o.dst.getD 0) | some _ => C.rows.contains (o.dst.getD 0 + 1000000))
def evSeq (C : Cx) (ops : Array Oper) : List Oper → St → (St → Prop) → Prop
  | [], st, K => K st
  | o :: rest, st, K => match inlOp C o with
    | false => evOp C ops o st fun st' _ _ => evSeq C ops rest st' K
    | true => match o.guard with
      | none => evInl C st o fun st' => evSeq C ops rest st' K
      | some _ => guardE ops o st fun g => (g = true → evInl C st o fun st' => evSeq C ops rest st' K) ∧ (g = false → ∃ a, evSeq C ops rest (st.put o.dst (.cond false a) none st.H st.k) K)
theorem conc_put {E : Env} {B : Base} {st : St} {o : Oper} {G G' : Gh} {w w' : World} {a : Act} {v : Value} {r : AV} {tag : Option Nat} {H' : List AObj} {k' : List Nat} (hst : Conc E B G w a st) (hd : ∀ d, o.dst = some d → d < B.nt)
    (hg : Good E B G' w') (hx : Ext G w G' w') (hobj : ∀ i, RepObj G' w' i H'[i]?) (htok : ∀ i, RepTok G' w' i k'[i]?) (hres : RepSlot G' w' v r tag) : Conc E B G' w' (a.put o.dst v) (st.put o.dst r tag H' k') := by
  refine ⟨hg, ?_, ?_, fun l => ?_⟩
  · cases hd' : o.dst with
    | none => simpa [Act.put, hd'] using hst.size
    | some d => simpa [Act.put, hd'] using hst.size
  · cases hd' : o.dst with
    | none => simpa [Act.put, hd'] using hst.defers
    | some d => simpa [Act.put, hd'] using hst.defers
  · cases hd' : o.dst with
    | none =>
      cases l with
      | slot t => exact (hst.rep (.slot t)).ext hx
      | obj i => exact hobj i
      | tok i => exact htok i
    | some d =>
      cases l with
      | slot t =>
        have hdl : d < a.tmps.size := by rw [hst.size]; exact hd d hd'
        simp only [RepL, St.put, upd]
        cases ht : Nat.beq t d with
        | true =>
          have ht := Nat.eq_of_beq_eq_true ht
          subst ht
          have : (a.put (some t) v).tmps.getD t undef = v := by simp [Act.put, Array.getD_eq_getD_getElem?, hdl]
          rw [this]
          exact hres
        | false =>
          have ht := Nat.ne_of_beq_eq_false ht
          have : (a.put (some d) v).tmps.getD t undef = a.tmps.getD t undef := by
            simp only [Act.put, Array.getD_eq_getD_getElem?]
            rw [Array.getElem?_setIfInBounds_ne (fun e => ht e.symm)]
          rw [this]
          exact (hst.rep (.slot t)).ext hx
      | obj i => exact hobj i
      | tok i => exact htok i
theorem evInl_ok {C : Cx} (hT : TOk C.P C.T) {B : Base} (hnb : B.nb = C.nb) (hnk : B.nk = C.nk) {st : St} {o : Oper} {K' : St → Prop} (hok : opOk C.T o = true) (h : evInl C st o K') (hd : ∀ d, o.dst = some d → d < B.nt) {G : Gh} {w : World} {a : Act} (hst : Conc C.E B G w a st)
    {K : Act → World → Prop} {Q : Exit → Act → World → Prop} (hK : ∀ G' w' a' st', K' st' → Conc C.E B G' w' a' st' → K a' w') : o.wp C.P a w K Q := by
  simp only [opOk, Bool.and_eq_true] at hok
  obtain ⟨hc, hl⟩ := hok
  unfold evInl at h
  split at h
  · rename_i f args tys ho
    rw [ho] at hl
    obtain ⟨s, hgho, h⟩ := h
    obtain ⟨G1, hst1⟩ := hgho B G w a hnb hnk hst
    clear hst
    have hst := hst1
    clear hst1
    have h' : calleeE C.T s true f (tys.toList.zip args.toList) fun fid as tas => FnC C.E C.P fid as tas s.H s.k fun r tag H k => K' (s.put o.dst r tag H k) := by
      unfold calleeE
      split at h
      · rename_i fid fa fb hfe
        rw [hfe]
        exact h
      · exact h.elim
    obtain ⟨fid, as, tas, ⟨hb, hfn⟩, hcall⟩ := calleeE_ok (E := C.E) (P := C.P) (Nat.eq_of_beq_eq_true hl) hc ho h'
    obtain ⟨vals, hexec, hlen, hrep⟩ := hcall rfl B G1 w a hst.good fun l _ => hst.rep l
    unfold Oper.wp
    rw [hexec, run_call hb]
    refine (hfn B G1 w vals hst.good (fun i => hst.rep (.obj i)) (fun i => hst.rep (.tok i)) hlen hrep).mono ?_
    rintro e w' ⟨v, r, tag, H', k', G', rfl, hk, hg, hx, hobj, htok, hres⟩
    exact hK G' w' _ _ hk (conc_put hst hd hg hx hobj htok hres)
  · rename_i x name args tys ho
    rw [ho] at hl
    have hl : tys.toList.length = args.toList.length := Nat.eq_of_beq_eq_true hl
    obtain ⟨s, hgho, h⟩ := h
    obtain ⟨G1, hst1⟩ := hgho B G w a hnb hnk hst
    clear hst
    have hst := hst1
    clear hst1
    split at h
    · rename_i t id off hx
      obtain ⟨f, c, tc, hrv, ⟨hb, hfn⟩, hK'⟩ : ∃ f c tc, Recv C.P s.H t id off name f c tc ∧ FnC C.E C.P f (c :: (tys.toList.zip args.toList).map (fun x => evV C.T s x.1 x.2)) (tc :: (tys.toList.zip args.toList).map fun x => tgV s x.2) s.H s.k (fun r tag H k => K' (s.put o.dst r tag H k)) ∧ True := by
        obtain ⟨f, c, tc, h1, h2⟩ := h
        exact ⟨f, c, tc, h1, h2, trivial⟩
      have r1 := (evV_ok (T := C.T) hst.good (constOk.at hc (ty := 0) (x := x) (by simp [opcs, ho])) fun l _ => hst.rep l).1
      rw [hx] at r1
      generalize hv : a.eval x = vx at *
      cases r1 with
      | iface _ _ u _ r2 =>
      cases r2 with
      | ptr _ _ _ g hg =>
      have hext : (#[Value.iface t (.pointer (some ⟨g, off, none⟩))] ++ args.map a.eval).extract 1 (#[Value.iface t (.pointer (some ⟨g, off, none⟩))] ++ args.map a.eval).size = args.map a.eval := by
        apply Array.ext'
        simp
        rw [List.take_of_length_le (by simp)]
      have h0 : (#[Value.iface t (.pointer (some ⟨g, off, none⟩))] ++ args.map a.eval)[0]? = some (Value.iface t (.pointer (some ⟨g, off, none⟩))) := by rw [Array.getElem?_append_left (by show 0 < 1; decide)]; rfl
      have hrun : (execOp a.eval o).run C.P w = (callMethod (.iface t (.pointer (some ⟨g, off, none⟩))) name (args.map a.eval)).run C.P w := by
        simp only [execOp, ho, resolve, Sem.run_bind, hv, Sem.run_pure, Result.andThen_ok, invoke, hext, h0]
      obtain ⟨v0, hexec, hv0⟩ : ∃ v0, (execOp a.eval o).run C.P w = (callFunc f (v0 :: args.toList.map a.eval).toArray).run C.P w ∧ RepSlot G1 w v0 c tc := by
        have hargs : ∀ v0 : Value, #[v0] ++ args.map a.eval = (v0 :: args.toList.map a.eval).toArray := fun v0 => by apply Array.ext'; simp
        cases hrv with
        | ptr h => exact ⟨_, by rw [hrun, h w g off, hargs], .ptr _ _ _ _ hg, trivial⟩
        | val ty cs tg c h ho hc =>
          have hobj := hst.rep (.obj id)
          simp only [RepL, ho] at hobj
          rcases hobj with ⟨rfl, _⟩ | ⟨g', i1, i2, i3, vals, fz, i4, i5, i6, i7⟩
          · simp at hc
          · rw [i1] at hg
            injection hg with hg
            subst hg
            obtain ⟨v, u1, u2, u3⟩ := i7 off c hc
            have hcell : w.cell? ⟨g', off, none⟩ = some v := by simpa [World.cell?, i4] using u1
            exact ⟨v, by rw [hrun, h w g' off v _ u2 hcell, hargs], u3⟩
      unfold Oper.wp
      rw [hexec, run_call hb]
      refine (hfn B G1 w (v0 :: args.toList.map a.eval) hst.good (fun i => hst.rep (.obj i)) (fun i => hst.rep (.tok i)) (by simp [hl]) fun i v c' hi hci => ?_).mono ?_
      · cases i with
        | zero =>
          simp only [List.getElem?_cons_zero, Option.some.injEq] at hi hci
          subst hi hci
          exact hv0
        | succ j =>
          simp only [List.getElem?_cons_succ] at hi hci
          have hj : j < args.toList.length := by
            rcases Nat.lt_or_ge j args.toList.length with h | h
            · exact h
            · rw [List.getElem?_eq_none (by simpa using h)] at hi; cases hi
          have ht : tys.toList[j]? = some tys.toList[j] := List.getElem?_eq_getElem (by omega)
          have hxx : args.toList[j]? = some args.toList[j] := List.getElem?_eq_getElem hj
          rw [List.getElem?_map] at hi hci
          rw [hxx] at hi
          rw [(List.getElem?_zip_eq_some (z := (tys.toList[j], args.toList[j]))).2 ⟨ht, hxx⟩] at hci
          simp only [Option.map_some, Option.some.injEq] at hi hci
          subst hi hci
          rw [List.getD_cons_succ, List.getD_eq_getElem?_getD, List.getElem?_map, (List.getElem?_zip_eq_some (z := (tys.toList[j], args.toList[j]))).2 ⟨ht, hxx⟩, Option.map_some, Option.getD_some]
          exact evV_ok (T := C.T) hst.good (constOk.at hc (by
            simp only [opcs, ho]
            exact List.mem_append_right _ (List.mem_of_getElem? ((List.getElem?_zip_eq_some (z := (tys.toList[j], args.toList[j]))).2 ⟨ht, hxx⟩)))) fun l _ => hst.rep l
      · rintro e w' ⟨v, r, tag, H', k', G', rfl, hk, hg', hx', hobj, htok, hres⟩
        exact hK G' w' _ _ hk (conc_put hst hd hg' hx' hobj htok hres)
    · exact h.elim
  · rename_i t x yt ho
    split at h
    · rename_i ti sz xs hti hx
      obtain ⟨hds, h⟩ := h
      have hu := (hT _ _ hti).under
      have hr := (evV_ok (T := C.T) hst.good (constOk.at hc (ty := t) (x := x) (by simp [opcs, ho])) fun l _ => hst.rep l).1
      rw [hx] at hr
      obtain ⟨e, he⟩ : ∃ e, ti.desc = .slice e := by
        split at hds
        · rename_i e he; exact ⟨e, he⟩
        · exact hds.elim
      rw [he] at hu
      obtain ⟨ad, n, cap, hv, hn⟩ : ∃ ad n cap, a.eval x = .slice ad n cap ∧ (ad = none → xs = []) := by
        generalize a.eval x = vx at *
        cases hr with
        | empty => exact ⟨_, _, _, rfl, fun _ => rfl⟩
        | list => exact ⟨_, _, _, rfl, fun h => by cases h⟩
      have hrun : (execOp a.eval o).run C.P w = .ok (.value (.bool ad.isNone)) w := by
        have hcst : a.eval (.const (.slice none 0 0)) = .slice none 0 0 := rfl
        have hgd : (eqGuard .eql t x (.const (.slice none 0 0)) (.slice ad n cap) (.slice none 0 0)).run C.P w = .ok () w := rfl
        have heq : (Op.equal t (.slice ad n cap) (.slice none 0 0)).run C.P w = .ok ad.isNone w := by
          rw [show Op.equal t (.slice ad n cap) (.slice none 0 0) = Op.equalIn (9999 + 1) t (.slice ad n cap) (.slice none 0 0) from rfl]
          unfold Op.equalIn
          rw [Sem.run_bind, run_underlying hu, Result.andThen_ok]
          cases ad <;> rfl
        have hb : (binOp .eql t (.slice ad n cap) (.slice none 0 0)).run C.P w = .ok (.bool ad.isNone) w := by
          show (do pure (.bool (← Op.equal t (.slice ad n cap) (.slice none 0 0))) : Sem Value).run C.P w = _
          simp only [heq, Sem.run_bind, Sem.run_pure, Result.andThen_ok]
        simp only [execOp, ho, Sem.run_bind, hv, hcst, hgd, hb, Result.andThen_ok, Sem.run_pure]
      unfold Oper.wp
      rw [hrun]
      exact hK G w _ _ (h ad.isNone fun hb => hn (by simpa using hb)) (conc_put hst hd hst.good (.refl _ _) (fun i => hst.rep (.obj i)) (fun i => hst.rep (.tok i)) ⟨.bool .., trivial⟩)
    · exact h.elim
  · exact h.elim
theorem evSeq_ok {C : Cx} (hT : TOk C.P C.T) {ops : Array Oper} {Q : Exit → Act → World → Prop} {B : Base} (hnb : B.nb = C.nb) (hnk : B.nk = C.nk) (hd : dstsOk B.nt ops = true) {K : St → Prop} :
    ∀ (l : List Oper) (i : Nat) (st : St), ops.toList.drop i = l → l.all (opOk C.T) = true → evSeq C ops l st K →
    ∀ (G : Gh) (w : World) (a : Act), Conc C.E B G w a st → (∀ G' w' a' st', K st' → Conc C.E B G' w' a' st' → Q .normal a' w') →
    wpOps C.P ops Q (List.range' i l.length) a w := by
  intro l
  induction l with
  | nil => intro i st _ _ h G w a hst hQ; exact hQ _ _ _ _ h hst
  | cons o rest ih =>
    intro i st hdr hok h G w a hst hQ
    simp only [List.all_cons, Bool.and_eq_true] at hok
    have hi : i < ops.toList.length := by
      rcases Nat.lt_or_ge i ops.toList.length with h | h
      · exact h
      · rw [List.drop_eq_nil_of_le h] at hdr; cases hdr
    rw [List.drop_eq_getElem_cons hi] at hdr
    injection hdr with h1 h2
    have ho : ops[i]? = some o := by rw [← Array.getElem?_toList, List.getElem?_eq_getElem hi, h1]
    simp only [List.length_cons, List.range'_succ]
    rw [wpOps_cons]
    unfold evSeq at h
    cases hb : inlOp C o with
    | false =>
      rw [hb] at h
      obtain ⟨st', N, W, h, hf⟩ := evOp_ok hT hok.1 h
      refine wpOp_of ho (hf.run B G w a hst.good hst.size (dstsOk.at hd ho) (fun l _ => hst.rep l) _ _ fun G' w' a' hg hsz hfr hW => ?_)
      exact ih (i + 1) _ h2 hok.2 h _ _ _ (hst.step hg hsz hfr hW hf.same) hQ
    | true =>
      rw [hb] at h
      dsimp only at h
      split at h
      · rename_i hg
        refine wpOp_of ho ?_
        rw [if_pos (by simp [Region.wanted, hg])]
        exact evInl_ok hT hnb hnk hok.1 h (dstsOk.at hd ho) hst fun G' w' a' st' hk hc => ih (i + 1) _ h2 hok.2 hk _ _ _ hc hQ
      · obtain ⟨g, h, _, hw⟩ := guardE_ok h
        cases g with
        | true =>
          refine wpOp_of ho ?_
          rw [if_pos (hw G w a fun l _ => hst.rep l)]
          exact evInl_ok hT hnb hnk hok.1 (h.1 rfl) (dstsOk.at hd ho) hst fun G' w' a' st' hk hc => ih (i + 1) _ h2 hok.2 hk _ _ _ hc hQ
        | false =>
          obtain ⟨x, h⟩ := h.2 rfl
          have hf : StepFact C.E C.P ops o st _ _ _ := step_skip hw x
          refine wpOp_of ho (hf.run B G w a hst.good hst.size (dstsOk.at hd ho) (fun l _ => hst.rep l) _ _ fun G' w' a' hg hsz hfr hW => ?_)
          exact ih (i + 1) _ h2 hok.2 h _ _ _ (hst.step hg hsz hfr hW hf.same) hQ
def isIns : Op → Bool
  | .insert .. | .mapUpdate .. => true
  | _ => false
def insN (id : Nat) : Op → List Loc
  | .insert _ m i x | .mapUpdate _ m i x => opN m ++ (opN i ++ opN x) ++ [.obj id]
  | _ => []
def evOpsM (C : Cx) (ops : Array Oper) (id : Nat) : List Oper → St → List (List Loc × List Loc) → List (Option (AV × AV)) → (St → List (List Loc × List Loc) → List (Option (AV × AV)) → Prop) → Prop
  | [], st, ft, I, K => K st ft I
  | o :: rest, st, ft, I, K => match isIns o.op with
    | false => evOp C ops o st fun st' N W => evOpsM C ops id rest st' (ft ++ [(N, W)]) (I ++ [none]) K
    | true => ∃ e, (∀ es, keysB (es ++ [e]) = true → evOp C ops o (st.wM id es) fun st' N' W => st' = st.wM id (es ++ [e]) ∧ N' = insN id o.op ∧ W = [.obj id]) ∧ evOpsM C ops id rest st (ft ++ [(insN id o.op, [.obj id])]) (I ++ [some e]) K
structure ChainM (E : Env) (P : Program) (ops : Array Oper) (id : Nat) (l : List Oper) (st : St) (ft : List (List Loc × List Loc)) (I : List (Option (AV × AV))) (st' : St) (S : Nat → St) : Prop where
  first : S 0 = st
  last : S l.length = st'
  lf : ft.length = l.length
  lI : I.length = l.length
  plain : ∀ (i : Nat) (o : Oper), l[i]? = some o → I.getD i none = none → StepFact E P ops o (S i) (S (i + 1)) (ft.getD i ([], [])).1 (ft.getD i ([], [])).2
  ins : ∀ (i : Nat) (o : Oper) (e : AV × AV) (es : List (AV × AV)), l[i]? = some o → I.getD i none = some e → keysB (es ++ [e]) = true → StepFact E P ops o ((S i).wM id es) ((S i).wM id (es ++ [e])) (ft.getD i ([], [])).1 [.obj id]
  stay : ∀ i, i < l.length → (I.getD i none).isSome = true → S (i + 1) = S i
theorem evOpsM_ok {C : Cx} (hT : TOk C.P C.T) {ops : Array Oper} {id : Nat} : ∀ (l : List Oper) (st : St) (ft : List (List Loc × List Loc)) (I : List (Option (AV × AV))) (K : St → List (List Loc × List Loc) → List (Option (AV × AV)) → Prop), l.all (opOk C.T) = true → evOpsM C ops id l st ft I K →
    ∃ st' ft' I' S, K st' (ft ++ ft') (I ++ I') ∧ ChainM C.E C.P ops id l st ft' I' st' S := by
  intro l
  induction l with
  | nil => intro st ft I K _ h; exact ⟨st, [], [], fun _ => st, by rw [List.append_nil, List.append_nil]; exact h, rfl, rfl, rfl, rfl, fun i o ho => by simp at ho, fun i o e es ho => by simp at ho, fun i hi => by simp at hi⟩
  | cons o rest ih =>
    intro st ft I K hok h
    simp only [List.all_cons, Bool.and_eq_true] at hok
    unfold evOpsM at h
    split at h
    · obtain ⟨st1, N, W, h, hf⟩ := evOp_ok hT hok.1 h
      obtain ⟨st', ft', I', S, hk, hc⟩ := ih _ _ _ _ hok.2 h
      refine ⟨st', (N, W) :: ft', none :: I', fun i => match i with | 0 => st | i + 1 => S i, by simpa using hk, rfl, by simpa using hc.last, by simpa using hc.lf, by simpa using hc.lI, fun i o' ho hi => ?_, fun i o' e es ho hi => ?_, fun i hi hs => ?_⟩
      · cases i with
        | zero =>
          simp only [List.getElem?_cons_zero, Option.some.injEq] at ho
          subst ho
          simp only [List.getD_cons_zero, hc.first]
          exact hf
        | succ i => simp only [List.getElem?_cons_succ] at ho; simpa using hc.plain i o' ho (by simpa using hi)
      · cases i with
        | zero => simp at hi
        | succ i => simp only [List.getElem?_cons_succ] at ho; simpa using hc.ins i o' e es ho (by simpa using hi)
      · cases i with
        | zero => simp at hs
        | succ i => exact hc.stay i (by simpa using hi) (by simpa using hs)
    · obtain ⟨e0, hes, h⟩ := h
      obtain ⟨st', ft', I', S, hk, hc⟩ := ih _ _ _ _ hok.2 h
      refine ⟨st', (insN id o.op, [.obj id]) :: ft', some e0 :: I', fun i => match i with | 0 => st | i + 1 => S i, by simpa using hk, rfl, by simpa using hc.last, by simpa using hc.lf, by simpa using hc.lI, fun i o' ho hi => ?_, fun i o' e es ho hi hkk => ?_, fun i hi hs => ?_⟩
      · cases i with
        | zero => simp at hi
        | succ i => simp only [List.getElem?_cons_succ] at ho; simpa using hc.plain i o' ho (by simpa using hi)
      · cases i with
        | zero =>
          simp only [List.getElem?_cons_zero, Option.some.injEq] at ho
          subst ho
          simp only [List.getD_cons_zero, Option.some.injEq] at hi
          subst hi
          obtain ⟨st1, N', W, ⟨e1, e2, e3⟩, hf⟩ := evOp_ok hT hok.1 (hes es hkk)
          subst e1 e2 e3
          simpa using hf
        | succ i => simp only [List.getElem?_cons_succ] at ho; simpa using hc.ins i o' e es ho (by simpa using hi) hkk
      · cases i with
        | zero => exact hc.first
        | succ i => exact hc.stay i (by simpa using hi) (by simpa using hs)
theorem wp_region_map2 {E : Env} {P : Program} {ops : Array Oper} {Q : Exit → Act → World → Prop} {B : Base} (hd : dstsOk B.nt ops = true) (he : edgesOk ops.toList = true) {id m : Nat}
    {st st' : St} {ft : List (List Loc × List Loc)} {I : List (Option (AV × AV))} {S : Nat → St} (hc : ChainM E P ops id ops.toList st ft I st' S) (hk : mapChk ops ft I id m = true)
    (hkeys : keysB (entsL I) = true) (hH : st'.H[id]? = some (.mp (.map [])))
    {G : Gh} {w : World} {a : Act} (hst : Conc E B G w a st)
    (hQ : ∀ G' w' a', Conc E B G' w' a' (st'.wP id (entsL I)) → Q .normal a' w') : wpAny P .any ops Q ops.size (Array.replicate ops.size false) a { w with drawn := w.drawn + 1 } := by
  have hents : entsOf (fun i => I.getD i none) (fun _ => true) ops.size = entsL I := by
    have := entsOf_list I
    rw [hc.lI, Array.length_toList] at this
    exact this
  rw [← hents] at hkeys hQ
  unfold mapChk at hk
  have k1 : m < ops.size := Nat.le_of_ble_eq_true (Bool.and_eq_true_iff.1 hk).1
  replace hk := (Bool.and_eq_true_iff.1 hk).2
  have k2 : I.getD m none = none := Option.isNone_iff_eq_none.1 (Bool.and_eq_true_iff.1 hk).1
  replace hk := (Bool.and_eq_true_iff.1 hk).2
  have k3 : Loc.obj id ∈ (ft.getD m ([], [])).2 := List.contains_iff_mem.1 (Bool.and_eq_true_iff.1 hk).1
  replace hk := (Bool.and_eq_true_iff.1 hk).2
  have k5 := (Bool.and_eq_true_iff.1 hk).1
  have k6 := fun i hi => List.all_eq_true.1 (Bool.and_eq_true_iff.1 hk).2 i (List.mem_range.2 hi)
  have hll : ops.toList.length = ops.size := Array.length_toList
  have hclean : ∀ i, i < ops.size → I.getD i none = none → i ≠ m → Loc.obj id ∉ (ft.getD i ([], [])).1 ∧ Loc.obj id ∉ (ft.getD i ([], [])).2 := fun i hi hx hne => by
    have := k6 i hi
    rw [hx] at this
    simp only [Bool.or_eq_true, Bool.and_eq_true, Bool.not_eq_true', Nat.beq_eq] at this
    rcases this with h | ⟨h1, h2⟩
    · exact absurd h hne
    · exact ⟨fun h => (by rw [List.contains_iff_mem.2 h] at h1; cases h1), fun h => (by rw [List.contains_iff_mem.2 h] at h2; cases h2)⟩
  have hins : ∀ i, i < ops.size → (I.getD i none).isSome = true → ((ancs ops.toList).getD i 0).testBit m = true ∧ m < i := fun i hi hx => by
    have := k6 i hi
    cases hh : I.getD i none with
    | none => rw [hh] at hx; exact absurd hx (by simp)
    | some e => rw [hh] at this; simpa using this
  have hlast : S ops.size = st' := by rw [← hll]; exact hc.last
  -- behind the map's making its place is not written in the text's order
  have hback : ∀ j, m + 1 + j ≤ ops.size → (S (m + 1 + j)).H[id]? = (S (m + 1)).H[id]? := by
    intro j
    induction j with
    | zero => intro _; rfl
    | succ j ih =>
      intro hj
      rw [← ih (by omega)]
      have hi : m + 1 + j < ops.size := by omega
      cases hh : I.getD (m + 1 + j) none with
      | none => exact ((hc.plain _ ops[m + 1 + j] (by rw [Array.getElem?_toList]; exact Array.getElem?_eq_getElem hi) hh).same (.obj id) (hclean _ hi hh (by omega)).2).symm
      | some e => rw [show m + 1 + (j + 1) = m + 1 + j + 1 by omega, hc.stay _ (by omega) (by rw [hh]; rfl)]
  have hmk : (S (m + 1)).H[id]? = some (.mp (.map [])) := by
    rw [← hback (ops.size - (m + 1)) (by omega), show m + 1 + (ops.size - (m + 1)) = ops.size by omega, hlast]; exact hH
  have hlt : ∀ i, m < i → i ≤ ops.size → id < (S i).H.length := fun i h1 h2 => by
    have := hback (i - (m + 1)) (by omega)
    rw [show m + 1 + (i - (m + 1)) = i by omega, hmk] at this
    exact (List.getElem?_eq_some_iff.1 this).1
  have hcount : ∀ n, (Array.replicate n false).toList.count false = n := by intro n; simp
  have hno : ∀ k, (Array.replicate ops.size false).getD k false = false := fun k => by
    rw [Array.getD_eq_getD_getElem?, Array.getElem?_replicate]
    split <;> rfl
  refine chain_drawM (G := G) (I := fun i => I.getD i none) (id := id) (m := m) hd he (by rw [hc.lf, hll]) (fun i o ho hx => hc.plain i o (by rw [Array.getElem?_toList]; exact ho) hx) (fun i o e es ho hx hkk => hc.ins i o e es (by rw [Array.getElem?_toList]; exact ho) hx hkk)
    (fun i hi hx => ⟨fun l _ => by rw [hc.stay i (by omega) hx]; exact .refl _ _, hlt i (hins i hi hx).2 (by omega), (hins i hi hx).1⟩) hclean ⟨k1, k2, k3, hmk⟩ hkeys (hlt _ k1 (Nat.le_refl _)) k5
    (fun G' w' a' es hp h => hQ G' w' a' (by rw [← hlast]; exact h.perm hp)) ops.size _ _ _ (by simp) (hcount _) ?_ ?_ hst.size hst.defers ?_ ?_ ?_
  · intro j o ho hj
    have := hno j
    rw [this] at hj; cases hj
  · have := hst.good
    exact ⟨this.fin, this.own, this.size, this.old, this.keep, this.new, this.os, this.tape, this.output, this.glob, this.gb, this.ids, this.toks, this.grow⟩
  · intro l _
    have hz : lastW (fun k => (Array.replicate ops.size false).getD k false) (wrM (fun i => I.getD i none) id ft) l ops.size = 0 := by
      have hsp := lastW_spec (fun k => (Array.replicate ops.size false).getD k false) (wrM (fun i => I.getD i none) id ft) l ops.size
      rcases hsp.2.2 with h | ⟨k, _, hx, _⟩
      · exact h
      · have := hno k
        simp only [this] at hx; cases hx
    rw [hz, hc.first]
    exact (hst.rep l).drawn
  · intro _
    refine RepL.congr (s := S 0) (by rw [hc.first]; exact (hst.rep _).drawn) ?_
    have hf : ∀ j, j ≤ m → SameAt (.obj id) (S 0) (S j) := by
      intro j
      induction j with
      | zero => intro _; exact .refl _ _
      | succ j ih =>
        intro hj
        have hi : j < ops.size := by omega
        refine (ih (by omega)).trans ?_
        cases hh : I.getD j none with
        | none => exact (hc.plain _ ops[j] (by rw [Array.getElem?_toList]; exact Array.getElem?_eq_getElem hi) hh).same (.obj id) (hclean _ hi hh (by omega)).2
        | some e => rw [hc.stay _ (by omega) (by rw [hh]; rfl)]; exact .refl _ _
    exact hf m (Nat.le_refl _)
  · intro h
    rw [hno m] at h; cases h
theorem wp_region_map {E : Env} {P : Program} (hm : P.follows .mixedOrders = true) {ops : Array Oper} {Q : Exit → Act → World → Prop} {B : Base} (hd : dstsOk B.nt ops = true) (he : edgesOk ops.toList = true) {rid id m : Nat}
    {st st' : St} {ft : List (List Loc × List Loc)} {I : List (Option (AV × AV))} {S : Nat → St} (hc : ChainM E P ops id ops.toList st ft I st' S) (hk : mapChk ops ft I id m = true)
    (hkeys : keysB (entsL I) = true) (hH : st'.H[id]? = some (.mp (.map [])))
    {G : Gh} {w : World} {a : Act} (hst : Conc E B G w a st)
    (hQ : ∀ G' w' a', Conc E B G' w' a' (st'.wP id (entsL I)) → Q .normal a' w') : (Code.region rid ops true).wp P Q a w := wp_region_any hm (wp_region_map2 hd he hc hk hkeys hH hst hQ)
end Go.Pm
