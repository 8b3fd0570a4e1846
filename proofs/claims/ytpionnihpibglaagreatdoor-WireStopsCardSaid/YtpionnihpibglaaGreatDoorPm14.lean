/-
  Generic: the evaluator over operations and regions.
-/
import Derived.Test.YtpionnihpibglaaGreatDoorPm13
namespace Go.Pm
open Go Go.RowKit
set_option linter.unusedSimpArgs false
structure Cx where
  E : Env
  P : Program
  T : Tab
  rows : List Nat
  nb : Nat := 0
  nk : Nat := 0
def strBytes (T : Tab) (src dst : TypeId) : Bool :=
  match T.at src, T.at dst with
  | some si, some di => match si.desc, di.desc with
    | .string, .slice _ => true
    | _, _ => false
  | _, _ => false
section
variable {E : Env} {P : Program} {T : Tab} {st : St} {o : Oper} {g : Bool}
def evBytes0 (T : Tab) (st : St) (g : Bool) (src dst : TypeId) (x : Operand) (k : AV → Option Nat → List Loc → Prop) : Prop :=
  unc g (evV T st src x) fun a => match a, T.at src, T.at dst with
    | .str s, some si, some di => match si.desc, di.desc with
      | .string, .slice e => ((T.at e).any (fun ti => ti.desc matches .int .u8) = true ∧ Nat.beq di.esz 1 = true) ∧ k (.list 1 (s.map byteAV)) none (opN x)
      | _, _ => False
    | _, _, _ => False
theorem evBytes0_ok (hT : TOk P T) {src dst : TypeId} {x : Operand} {k : AV → Option Nat → List Loc → Prop} (hc : constOk T o = true) (ho : o.op = .convert src dst x) (h : evBytes0 T st g src dst x k) : Yld E P st o g k := by
  unfold evBytes0 at h
  obtain ⟨a', h, ha'⟩ := unc_ok h
  split at h
  · rename_i s si di hsi hdi
    split at h
    · rename_i e h1 h2
      obtain ⟨⟨hb, _⟩, h⟩ := h
      refine ⟨_, none, _, h, fun hgg => ⟨by simp, fun l _ => by cases l <;> trivial, fun B G w a hg hN K Q hK => ?_⟩⟩
      have r1 := ha' hgg _ _ _ _ (evV_ok (T := T) hg (constOk.at hc (ty := src) (x := x) (by simp [opcs, ho])) hN).1
      have hv : a.eval x = .string ⟨s.toArray⟩ ∧ s.length ≤ maxLen := by
        generalize a.eval x = v at *
        cases r1 with | str _ _ hl => exact ⟨rfl, hl⟩
      have hge := grownCap_ge w s.length 0 e
      have hle := grownCap_le_maxLen w s.length 0 e hv.2
      have hsize := bytesRow_size s (grownCap w s.length 0 e) hge
      have hgr := grown1_drew w (.cells (bytesRow ⟨s.toArray⟩ (grownCap w s.length 0 e)) e ((bytesRow ⟨s.toArray⟩ (grownCap w s.length 0 e)).size, (bytesRow ⟨s.toArray⟩ (grownCap w s.length 0 e)).size + 1))
      have hbel : Below w.heap.size w (w.drew.alloc (.cells (bytesRow ⟨s.toArray⟩ (grownCap w s.length 0 e)) e ((bytesRow ⟨s.toArray⟩ (grownCap w s.length 0 e)).size, (bytesRow ⟨s.toArray⟩ (grownCap w s.length 0 e)).size + 1))) :=
        ⟨rfl, rfl, rfl, by rw [hgr.size]; omega, fun b hb => hgr.old b hb⟩
      obtain ⟨g1, g2⟩ := below_good hg (F' := fun b o => G.F b o ∨ (b = w.heap.size ∧ o < s.length)) hbel (fun _ _ h => .inl h) (fun b o hb => by
        rw [hgr.size]
        rcases hb with hb | ⟨hb, _⟩
        · exact ⟨by have := hg.fin b o hb; omega, .inl hb⟩
        · exact ⟨by omega, .inr (by omega)⟩)
      unfold Oper.wp
      rw [evBytes_run hT ho hsi hdi h1 h2 hb a w hv.1]
      refine hK _ _ _ g1 g2 ⟨?_, trivial⟩ (by simp)
      refine Rep.list_of (by simp) hge hle (fun e he => by obtain ⟨b, _, rfl⟩ := List.mem_map.1 he; rfl) (fun j hj => .inr ⟨rfl, by simp at hj; omega⟩) fun i el j c hi hj => ?_
      have hi' : s[i]?.map byteAV = some el := by simpa using hi
      cases hs : s[i]? with
      | none => rw [hs] at hi'; cases hi'
      | some b =>
        rw [hs] at hi'
        simp only [Option.map_some, Option.some.injEq] at hi'
        subst hi'
        cases j with
        | zero =>
          simp only [byteAV, AV.cells, List.getElem?_cons_zero, Option.some.injEq] at hj
          subst hj
          refine ⟨_, ?_, rfl, .int _ _ _ (u8_wrap b)⟩
          rw [cell_at hgr.new, Nat.mul_one, Nat.add_zero, Nat.zero_add]
          exact bytesRow_get s _ hge i b hs
        | succ j => simp [byteAV, AV.cells] at hj
    · exact h.elim
  · exact h.elim
end
def pureOp (T : Tab) (o : Oper) : Bool :=
  match o.op with
  | .move (.const (.slice none 0 0)) | .assign (.const (.slice none 0 0)) => false
  | .move _ | .assign _ | .pick .. | .binOp .. | .unOp .. | .load .. | .fieldAddr .. | .field .. | .indexAddr .. | .index .. | .lookup .. | .extract .. | .makeInterface .. | .makeFunc .. | .nilCheck _ | .build .. => true
  | .convert src dst _ => !strBytes T src dst || o.guard.isSome
  | .slice _ _ _ _ mx => mx.isNone
  | .call { callee := .builtin .len, .. } | .call { callee := .builtin .min, .. } | .call { callee := .builtin .max, .. } => true
  | .call { callee := .value _, .. } => o.guard.isSome
  | _ => false
def isStrT (T : Tab) (t : TypeId) : Bool := match T.at t with | some ti => (match ti.desc with | .string => true | _ => false) | none => false
def isMapT (T : Tab) (t : TypeId) : Bool := match T.at t with | some ti => (match ti.desc with | .map _ _ => true | _ => false) | none => false
def evP (C : Cx) (st : St) (g : Bool) (o : Oper) (k : AV → Option Nat → List Loc → Prop) : Prop :=
  match o.op with
  | .move x | .assign x => evMove C.T st g o.type x k
  | .pick c x y => evPick C.T st g o.type c x y k
  | .binOp op t x y _ => evBin C.T st g op t x y k
  | .unOp op t x => evUn C.T st g op t x k
  | .load t x => evLoad C.T st g t x k
  | .fieldAddr t x n => evFieldAddr C.T st g t x n k
  | .field t x n => evField C.T st g t x n k
  | .indexAddr t x i => evIndexAddr C.T st g t x i k
  | .index t x i => evIndex C.T st g t x i k
  | .lookup t m i ok => evLookup C.T st g t m i ok k
  | .extract x n => evExtract C.T st g x n k
  | .makeInterface t x => evMakeIface C.T st t x k
  | .makeFunc fn a b => evMakeFunc C.T st fn a.toList b.toList k
  | .nilCheck x => evNilCheck C.T st g x k
  | .build t ps => evBuild C.T st g t ps.toList k
  | .convert src dst x => match strBytes C.T src dst with
    | true => evBytes0 C.T st g src dst x k
    | false => match isIntT C.T src && isStrT C.T dst with
      | true => evRune C.T st g src dst x k
      | false => evConv C.T st g src dst x k
  | .slice t x lo hi none => evSlice C.T st g t x lo hi k
  | .call { callee := .builtin .len, args := ⟨[x]⟩, argTypes := ⟨[t]⟩ } => match isMapT C.T t with
    | false => evLen C.T st g t x k
    | true => evLenM C.T st g t x k
  | .call { callee := .builtin .min, args := ⟨[x, y]⟩, argTypes := ⟨[tx, ty]⟩ } => evMinMax C.T st g false tx ty x y k
  | .call { callee := .builtin .max, args := ⟨[x, y]⟩, argTypes := ⟨[tx, ty]⟩ } => evMinMax C.T st g true tx ty x y k
  | .call { callee := .value f, args := args, argTypes := tys } => evCallP C.E C.P C.T st g f (tys.toList.zip args.toList) k
  | _ => False
def evH (C : Cx) (st : St) (o : Oper) (k : KH) : Prop :=
  match o.op with
  | .move (.const (.slice none 0 0)) | .assign (.const (.slice none 0 0)) => evNil C.T st o.type k
  | .alloc t => match C.rows.contains (o.dst.getD 0) with
    | true => evAllocB C.T st t k
    | false => evAlloc C.T st t k
  | .box t x => evBox C.T st t x k
  | .makeMap _ none => evMakeMap st k
  | .range t x => evRange C.T st t x k
  | .next x true => evNext C.T st x k
  | .insert t m i x => evInsert C.T st t m i x k
  | .mapUpdate t m i x => evInsert C.T st t m i x k
  | .buildSlice t n ps => evBuildSlice C.T st t n ps.toList k
  | .convert src dst x => match C.rows.contains (o.dst.getD 0) with
    | true => evBytesRow C.T st src dst x k
    | false => evBytes C.T st src dst x k
  | .store t a v => evStore C.T st t a v k
  | .slice t x lo (some hi) (some mx) => evClip C.T st t x lo hi mx k
  | .call { callee := .builtin .append, args := ⟨[s, x]⟩, argTypes := ⟨[ts, tx]⟩ } => match C.rows.contains (o.dst.getD 0) with
    | true => evAppendRow C.T st ts tx s x k
    | false => evAppend C.T st ts tx s x k
  | .call { callee := .value f, args := args, argTypes := tys } => evCallH C.E C.P C.T st f (tys.toList.zip args.toList) k
  | _ => False
def opOk (T : Tab) (o : Oper) : Bool := constOk T o && (match o.op with | .call c => Nat.beq c.argTypes.toList.length c.args.toList.length | _ => true)
theorem evP_ok {C : Cx} (hT : TOk C.P C.T) {st : St} {g : Bool} {o : Oper} {k : AV → Option Nat → List Loc → Prop} (hok : opOk C.T o = true) (h : evP C st g o k) : Yld C.E C.P st o g k := by
  simp only [opOk, Bool.and_eq_true] at hok
  obtain ⟨hc, hl⟩ := hok
  unfold evP at h
  split at h
  · rename_i x ho; exact evMove_ok hc (.inl ho) h
  · rename_i x ho; exact evMove_ok hc (.inr ho) h
  · rename_i ho; exact evPick_ok hc ho h
  · rename_i ho; exact evBin_ok hT hc ho h
  · rename_i ho; exact evUn_ok hc ho h
  · rename_i ho; exact evLoad_ok hT hc ho h
  · rename_i ho; exact evFieldAddr_ok hT hc ho h
  · rename_i ho; exact evField_ok hT hc ho h
  · rename_i ho; exact evIndexAddr_ok hT hc ho h
  · rename_i ho; exact evIndex_ok hT hc ho h
  · rename_i ho; exact evLookup_ok hT hc ho h
  · rename_i ho; exact evExtract_ok hc ho h
  · rename_i ho; exact evMakeIface_ok hT hc ho h
  · rename_i ho; exact evMakeFunc_ok hc ho h
  · rename_i ho; exact evNilCheck_ok hc ho h
  · rename_i ho; exact evBuild_ok hT hc ho h
  · rename_i ho
    split at h
    · exact evBytes0_ok hT hc ho h
    · split at h
      · exact evRune_ok hT hc ho h
      · exact evConv_ok hT hc ho h
  · rename_i ho; exact evSlice_ok hT hc ho h
  · rename_i ho
    split at h
    · exact evLen_ok hT hc ho h
    · exact evLenM_ok hT hc ho h
  · rename_i ho; exact evMinMax_ok (mx := false) hc ho h
  · rename_i ho; exact evMinMax_ok (mx := true) hc ho h
  · rename_i ho
    rw [ho] at hl
    exact evCallP_ok (Nat.eq_of_beq_eq_true hl) hc ho h
  · exact h.elim
theorem evH_ok {C : Cx} (hT : TOk C.P C.T) {st : St} {o : Oper} {k : KH} (hok : opOk C.T o = true) (h : evH C st o k) : YldH C.E C.P st o k := by
  simp only [opOk, Bool.and_eq_true] at hok
  obtain ⟨hc, hl⟩ := hok
  unfold evH at h
  split at h
  · rename_i ho; exact evNil_ok (.inl ho) h
  · rename_i ho; exact evNil_ok (.inr ho) h
  · rename_i ho
    split at h
    · exact evAllocB_ok hT ho h
    · exact evAlloc_ok hT ho h
  · rename_i ho; exact evBox_ok hc ho h
  · rename_i ho; exact evMakeMap_ok ho h
  · rename_i ho; exact evRange_ok hT hc ho h
  · rename_i ho; exact evNext_ok (ty := 0) hc ho h
  · rename_i ho; exact evInsert_ok hT hc (.inl ho) h
  · rename_i ho; exact evInsert_ok hT hc (.inr ho) h
  · rename_i ho; exact evBuildSlice_ok hT hc ho h
  · rename_i ho
    split at h
    · exact evBytesRow_ok hT hc ho h
    · exact evBytes_ok hT hc ho h
  · rename_i ho; exact evStore_ok hT hc ho h
  · rename_i ho; exact evClip_ok hT hc ho h
  · rename_i ho
    split at h
    · exact evAppendRow_ok hT hc ho h
    · exact evAppend_ok hT hc ho h
  · rename_i ho
    rw [ho] at hl
    exact evCallH_ok (Nat.eq_of_beq_eq_true hl) hc ho h
  · exact h.elim
inductive NormE (r : AV) (K : AV → Prop) : Prop
  | same (h : K r)
  | to (r' : AV) (he : Wf r → r = r') (h : K r')
def normE (b : Bool) (r : AV) (K : AV → Prop) : Prop :=
  match b with
  | true => NormE r K
  | false => K r
theorem normE_ok {b : Bool} {r : AV} {K : AV → Prop} (h : normE b r K) : ∃ r', K r' ∧ (Wf r → r = r') := by
  cases b with
  | false => exact ⟨r, h, fun _ => rfl⟩
  | true =>
    cases h with
    | same h => exact ⟨r, h, fun _ => rfl⟩
    | to r' he h => exact ⟨r', h, he⟩
def normOp (T : Tab) (o : Oper) : Bool :=
  match o.op with
  | .slice .. | .buildSlice .. => true
  | .call { callee := .builtin .len, .. } | .call { callee := .builtin .append, .. } => true
  | .binOp .add t _ _ _ => (match T.at t with | some ti => (match ti.desc with | .string => true | _ => false) | none => false)
  | .load t _ => (match T.at t with | some ti => isAggD ti.desc | none => false)
  | _ => false
theorem HFact.norm {E : Env} {P : Program} {st : St} {o : Oper} {r r' : AV} {tag : Option Nat} {H : List AObj} {k : List Nat} {N W : List Loc} (h : HFact E P st o r tag H k N W) (he : Wf r → r = r') : HFact E P st o r' tag H k N W :=
  ⟨h.noslot, h.same, fun B G w a hg hN K Q hK => h.run B G w a hg hN K Q fun G' w' v h1 h2 h3 h4 => hK G' w' v h1 h2 (by have := he h3.1.wf; rw [← this]; exact h3) h4⟩
def callV (o : Oper) : Bool :=
  match o.op with
  | .call { callee := .value _, .. } => true
  | _ => false
def evOp (C : Cx) (ops : Array Oper) (o : Oper) (st : St) (K : St → List Loc → List Loc → Prop) : Prop :=
  match o.guard with
  | none => match pureOp C.T o with
    | true => evP C st true o fun r tag N => normE (normOp C.T o) r fun r => K (st.put o.dst r tag st.H st.k) N (dstW o.dst ++ [])
    | false => evH C st o fun r tag H k N W => normE (normOp C.T o) r fun r => K (st.put o.dst r tag H k) N (dstW o.dst ++ W)
  | some _ => guardE ops o st fun g => match pureOp C.T o && !(callV o && C.rows.contains (o.dst.getD 0)) with
    | true => evP C st g o fun r _ N => normE (normOp C.T o) r fun r => K (st.put o.dst (.cond g r) none st.H st.k) (guardN ops o ++ N) (dstW o.dst ++ [])
    | false => (g = true → evH C st o fun r tag H k N W => normE (normOp C.T o) r fun r => K (st.put o.dst r tag H k) (guardN ops o ++ N) (dstW o.dst ++ W)) ∧
        (g = false → K (st.put o.dst (.cond false .any) none st.H st.k) (guardN ops o) (dstW o.dst ++ []))
theorem evOp_ok {C : Cx} (hT : TOk C.P C.T) {ops : Array Oper} {st : St} {o : Oper} {K : St → List Loc → List Loc → Prop} (hok : opOk C.T o = true) (h : evOp C ops o st K) :
    ∃ st' N W, K st' N W ∧ StepFact C.E C.P ops o st st' N W := by
  unfold evOp at h
  split at h
  · rename_i hg
    have hgn : guardN ops o = [] := by simp [guardN, guardT, hg]
    have hw : ∀ (G : Gh) (w : World) (a : Act), (∀ l, l ∈ guardN ops o → RepL G w a l st) → Region.wanted o (yielded ops a.tmps) = true := fun _ _ _ _ => by simp [Region.wanted, hg]
    split at h
    · obtain ⟨r, tag, N, h, hf⟩ := evP_ok hT hok h
      obtain ⟨r', h, he⟩ := normE_ok h
      have := step_do hw ((hf rfl).norm he)
      rw [hgn] at this
      exact ⟨_, _, _, h, this⟩
    · obtain ⟨r, tag, H, k, N, W, h, hf⟩ := evH_ok hT hok h
      obtain ⟨r', h, he⟩ := normE_ok h
      have := step_do hw (hf.norm he)
      rw [hgn] at this
      exact ⟨_, _, _, h, this⟩
  · obtain ⟨g, h, _, hw⟩ := guardE_ok h
    split at h
    · obtain ⟨r, tag, N, h, hf⟩ := evP_ok hT hok h
      obtain ⟨r', h, he⟩ := normE_ok h
      exact ⟨_, _, _, h, step_cond hw fun hgt => ⟨tag, (hf hgt).norm he⟩⟩
    · cases g with
      | true =>
        obtain ⟨r, tag, H, k, N, W, h, hf⟩ := evH_ok hT hok (h.1 rfl)
        obtain ⟨r', h, he⟩ := normE_ok h
        exact ⟨_, _, _, h, step_do hw (hf.norm he)⟩
      | false => exact ⟨_, _, _, h.2 rfl, step_skip hw _⟩
def evOps (C : Cx) (ops : Array Oper) : List Oper → St → List (List Loc × List Loc) → (St → List (List Loc × List Loc) → Prop) → Prop
  | [], st, ft, K => K st ft
  | o :: rest, st, ft, K => evOp C ops o st fun st' N W => evOps C ops rest st' (ft ++ [(N, W)]) K
theorem evOps_ok {C : Cx} (hT : TOk C.P C.T) {ops : Array Oper} : ∀ (l : List Oper) (st : St) (ft : List (List Loc × List Loc)) (K : St → List (List Loc × List Loc) → Prop), l.all (opOk C.T) = true → evOps C ops l st ft K →
    ∃ st' ft', K st' (ft ++ ft') ∧ Chain C.E C.P ops l st ft' st' := by
  intro l
  induction l with
  | nil => intro st ft K _ h; exact ⟨st, [], by rw [List.append_nil]; exact h, .nil st⟩
  | cons o rest ih =>
    intro st ft K hok h
    simp only [List.all_cons, Bool.and_eq_true] at hok
    obtain ⟨st1, N, W, h, hf⟩ := evOp_ok hT hok.1 h
    obtain ⟨st', ft', hk, hch⟩ := ih _ _ _ hok.2 h
    exact ⟨st', (N, W) :: ft', by simpa using hk, .cons _ _ _ _ _ _ _ _ hf hch⟩
end Go.Pm
