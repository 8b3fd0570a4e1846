/-
  Generic: types' facts, constants, guards; what makes one operation a step.
-/
import Derived.Test.YtkfoahoplndelaaGreatDoorPm3
import Derived.Laws.Entries
import Derived.WalkKit
namespace Go.Pm
open Go Go.RowKit
structure TI where
  desc : TypeDesc
  size : Nat
  bytes : Nat
  zv : Value
  zero : AV
  esz : Nat
  eby : Nat
  eqk : List Nat
def rep1 : Value → AV → Bool
  | .bool b, .bool c => b == c
  | .int k n, .int k' m => k == k' && n == m && k.wrap n == n
  | .string s, .str l => s.data.toList == l && Nat.ble l.length 1000000
  | .slice none 0 0, .list _ [] => true
  | .pointer none, .nilp => true
  | .nilFunc, .nilf => true
  | .nilIface, .nili => true
  | .map none, .any => true
  | _, _ => false
def repz : Value → AV → Bool
  | .agg vs, .agg cs => vs.toList.length == cs.length && (vs.toList.zip cs).all fun x => rep1 x.1 x.2
  | v, a => rep1 v a
theorem rep1_ok {v : Value} {a : AV} (h : rep1 v a = true) (F : Nat → Nat → Prop) (w : World) (ι : Nat → Option Nat) : Rep F w ι v a ∧ v.oneCell' = true := by
  unfold rep1 at h
  split at h
  · simp at h; subst h; exact ⟨.bool .., rfl⟩
  · simp at h; obtain ⟨⟨h1, h2⟩, h3⟩ := h; subst h1 h2; exact ⟨.int _ _ _ h3, rfl⟩
  · rename_i s l
    simp at h
    obtain ⟨h1, h2⟩ := h
    subst h1
    refine ⟨?_, rfl⟩
    have : (⟨s.data.toList.toArray⟩ : ByteArray) = s := by cases s; simp
    have h3 := Rep.str (F := F) (w := w) ι s.data.toList (by unfold maxLen; simp at h2 ⊢; omega)
    rw [this] at h3
    exact h3
  · exact ⟨.empty _ _ _ _ (by simp), rfl⟩
  · exact ⟨.nilp _, rfl⟩
  · exact ⟨.nilf _, rfl⟩
  · exact ⟨.nili _, rfl⟩
  · exact ⟨.any _ _, rfl⟩
  · cases h
theorem repz_ok {v : Value} {a : AV} (h : repz v a = true) (F : Nat → Nat → Prop) (w : World) (ι : Nat → Option Nat) : Rep F w ι v a := by
  unfold repz at h
  split at h
  · rename_i vs cs
    simp only [Bool.and_eq_true, beq_iff_eq, List.all_eq_true] at h
    obtain ⟨h1, h2⟩ := h
    have key : ∀ (i : Nat) (v : Value) (c : AV), vs.toList[i]? = some v → cs[i]? = some c → rep1 v c = true := fun i v c hv hc =>
      h2 (v, c) (List.mem_of_getElem? (i := i) (by rw [List.getElem?_zip_eq_some]; exact ⟨hv, hc⟩))
    have := Rep.agg (F := F) (w := w) ι vs.toList cs h1 (fun v hv => by
      obtain ⟨i, hi, rfl⟩ := List.getElem_of_mem hv
      exact (rep1_ok (key i _ _ (List.getElem?_eq_getElem hi) (List.getElem?_eq_getElem (by omega))) F w ι).2) fun i v c hv hc => (rep1_ok (key i v c hv hc) F w ι).1
    simpa using this
  · exact (rep1_ok h F w ι).1
def eltOk (P : Program) (ti : TI) : Bool :=
  match ti.desc with
  | .slice e | .array _ e => match P.info? e with
    | some i => i.size == ti.esz && i.bytes == ti.eby && (match i.zero with | some z => z.cells.size == i.size && z.cells.toList.all (·.oneCell') | none => false)
    | none => false
  | _ => true
def fldOk (P : Program) (ti : TI) : Bool :=
  match ti.desc with
  | .struct fs => fs.toList.all fun f => match P.info? f.type with | some i => i.size != 0 | none => false
  | _ => true
def eqFld (P : Program) : List Nat → List Field → Nat → Bool
  | [], [], _ => true
  | k :: ks, f :: fs, off => f.offset == off && f.name != "_" && (match P.underlying f.type with | some .string => k == 0 | some .bool => k == 1 | some (.int _) => k == 2 | _ => false) && eqFld P ks fs (off + 1)
  | _, _, _ => false
def eqTyOk (P : Program) (t : TypeId) (ks : List Nat) : Bool :=
  (match P.underlying t with | some (.struct fs) => eqFld P ks fs.toList 0 | _ => false) && !P.stoodInHeld t && !P.eqGuardType P.depth t
structure TFact (P : Program) (t : TypeId) (ti : TI) : Prop where
  under : P.underlying t = some ti.desc
  info : (P.info? t).map (fun i => (i.size, i.bytes, i.zero)) = some (ti.size, ti.bytes, some ti.zv)
  zero : repz ti.zv ti.zero = true
  elem : eltOk P ti = true
  flds : fldOk P ti = true
  eqs : (ti.eqk.isEmpty || eqTyOk P t ti.eqk) = true
def isAggD : TypeDesc → Bool
  | .struct _ | .array _ _ => true
  | _ => false
section
variable {P : Program} {t : TypeId} {ti : TI} (h : TFact P t ti) (w : World)
include h
theorem TFact.info_some : ∃ i, P.info? t = some i ∧ i.size = ti.size ∧ i.bytes = ti.bytes ∧ i.zero = some ti.zv := by
  have := h.info
  cases hi : P.info? t with
  | none => rw [hi] at this; cases this
  | some i => rw [hi] at this; simp at this; exact ⟨i, rfl, this⟩
theorem TFact.run_size : (sizeOf t).run P w = .ok ti.size w := by
  obtain ⟨i, hi, hs, _⟩ := h.info_some
  simp [sizeOf, typeInfo, hi, hs]
theorem TFact.run_zero : (zeroValue t).run P w = .ok ti.zv w := by
  obtain ⟨i, hi, _, _, hz⟩ := h.info_some
  simp [zeroValue, typeInfo, hi, hz]
theorem TFact.run_agg : (isAgg t).run P w = .ok (isAggD ti.desc) w := by
  simp only [isAgg, Sem.run_bind, run_underlying h.under, Result.andThen_ok]
  cases ti.desc <;> rfl
theorem TFact.elem_info {e : TypeId} (he : ti.desc = .slice e ∨ ∃ n, ti.desc = .array n e) : ∃ i z, P.info? e = some i ∧ i.size = ti.esz ∧ i.bytes = ti.eby ∧ i.zero = some z ∧ z.cells.size = i.size ∧ ∀ v, v ∈ z.cells.toList → v.oneCell' = true := by
  have h1 := h.elem
  have h2 : (match P.info? e with
    | some i => i.size == ti.esz && i.bytes == ti.eby && (match i.zero with | some z => z.cells.size == i.size && z.cells.toList.all (·.oneCell') | none => false)
    | none => false) = true := by
    rcases he with he | ⟨n, he⟩ <;> (unfold eltOk at h1; rw [he] at h1; exact h1)
  cases hi : P.info? e with
  | none => rw [hi] at h2; cases h2
  | some i =>
    rw [hi] at h2
    simp only [Bool.and_eq_true, beq_iff_eq] at h2
    obtain ⟨⟨h3, h4⟩, h5⟩ := h2
    cases hz : i.zero with
    | none => rw [hz] at h5; cases h5
    | some z => 
      rw [hz] at h5
      simp only [Bool.and_eq_true, beq_iff_eq, List.all_eq_true] at h5
      exact ⟨i, z, rfl, h3, h4, hz, h5.1, h5.2⟩
theorem TFact.run_esz {e : TypeId} (he : ti.desc = .slice e ∨ ∃ n, ti.desc = .array n e) : (sizeOf e).run P w = .ok ti.esz w := by
  obtain ⟨i, z, hi, hs, _⟩ := h.elem_info he
  simp [sizeOf, typeInfo, hi, hs]
theorem TFact.run_fieldPlace {fs : Array Field} (hd : ti.desc = .struct fs) {n : Nat} {f : Field} (hf : fs[n]? = some f) (a : Addr) : (fieldPlace a f).run P w = .ok (a.add f.offset) w := by
  have h1 := h.flds
  unfold fldOk at h1
  rw [hd] at h1
  simp only [List.all_eq_true] at h1
  have h2 := h1 f (by rw [← Array.getElem?_toList] at hf; exact List.mem_of_getElem? hf)
  cases hi : P.info? f.type with
  | none => rw [hi] at h2; cases h2
  | some i =>
    rw [hi] at h2
    have h3 : ¬ i.size = 0 := by simpa using h2
    simp [fieldPlace, sizeOf, typeInfo, hi, h3]
end
abbrev Tab := List (TypeId × TI)
def Tab.at (T : Tab) (t : TypeId) : Option TI :=
  match T with
  | [] => none
  | (u, i) :: r => bif Nat.beq t u then some i else Tab.at r t
def TOk (P : Program) (T : Tab) : Prop := ∀ t i, T.at t = some i → TFact P t i
theorem TOk.nil (P : Program) : TOk P [] := fun _ _ h => by cases h
theorem TOk.cons {P : Program} {T : Tab} {t : TypeId} {i : TI} (h : TFact P t i) (hT : TOk P T) : TOk P ((t, i) :: T) := fun u j hu => by
  unfold Tab.at at hu
  cases hb : Nat.beq u t with
  | true => rw [hb] at hu; injection hu with hu; subst hu; rw [Nat.eq_of_beq_eq_true hb]; exact h
  | false => rw [hb] at hu; exact hT u j hu
def evC (T : Tab) (ty : TypeId) : Value → AV
  | .bool b => .bool b
  | .int k n => .int k n
  | .string s => .str s.data.toList
  | .pointer none => .nilp
  | .nilFunc => .nilf
  | .nilIface => .nili
  | .slice none 0 0 => .list (match T.at ty with | some ti => ti.esz | none => 0) []
  | .agg _ => match T.at ty with | some ti => ti.zero | none => .any
  | _ => .any
def evV (T : Tab) (st : St) (ty : TypeId) : Operand → AV
  | .tmp t => st.s t
  | .const v => evC T ty v
  | .global g => .glob g
  | .func f => .fn f [] []
def tgV (st : St) : Operand → Option Nat
  | .tmp t => st.g t
  | _ => none
def opN : Operand → List Loc
  | .tmp t => [.slot t]
  | _ => []
def cOk (T : Tab) (ty : TypeId) : Operand → Bool
  | .const v => repz v (evC T ty v)
  | _ => true
theorem evV_ok {E : Env} {B : Base} {T : Tab} {st : St} {ty : TypeId} {x : Operand} {G : Gh} {w : World} {a : Act} (_hg : Good E B G w) (hc : cOk T ty x = true) (hN : ∀ l, l ∈ opN x → RepL G w a l st) :
    RepSlot G w (a.eval x) (evV T st ty x) (tgV st x) := by
  cases x with
  | tmp t => exact hN (.slot t) (by simp [opN])
  | const v => exact ⟨repz_ok hc _ _ _, trivial⟩
  | global g => exact ⟨.glob .., trivial⟩
  | func f => exact ⟨.fn _ _ [] [] [] [] rfl rfl (by simp) (by simp), trivial⟩
def upd {α : Type} (f : Nat → α) (d : Nat) (v : α) : Nat → α := fun t => bif Nat.beq t d then v else f t
theorem upd_same {α : Type} (f : Nat → α) (d : Nat) (v : α) : upd f d v d = v := by simp [upd]
theorem upd_other {α : Type} (f : Nat → α) {d t : Nat} (v : α) (h : t ≠ d) : upd f d v t = f t := by
  have : Nat.beq t d = false := by simpa [← Nat.beq_eq] using h
  simp [upd, this]
def St.put (st : St) (dst : Option Nat) (v : AV) (tag : Option Nat) (H : List AObj) (k : List Nat) : St :=
  match dst with
  | some d => { s := upd st.s d v, g := upd st.g d tag, H := H, k := k }
  | none => { st with H := H, k := k }
def dstW : Option Nat → List Loc
  | some d => [.slot d]
  | none => []
def guardT (ops : Array Oper) (o : Oper) : Option Nat :=
  match o.guard with
  | none => none
  | some (j, _) => (ops[j]?).bind (·.dst)
def guardN (ops : Array Oper) (o : Oper) : List Loc :=
  match guardT ops o with
  | some t => [.slot t]
  | none => []
def guardE (ops : Array Oper) (o : Oper) (st : St) (k : Bool → Prop) : Prop :=
  match o.guard with
  | none => k true
  | some (_, want) => match guardT ops o with
    | none => False
    | some t => match st.s t with
      | .bool b => k (bif want then b else !b)
      | .cond c (.bool b) => k (c && (bif want then b else !b))
      | _ => False
theorem yielded_of {ops : Array Oper} {a : Act} {j t : Nat} (ht : (ops[j]?).bind (·.dst) = some t) : yielded ops a.tmps j = match a.tmps.getD t undef with | .bool b => some b | _ => none := by
  unfold yielded
  rw [ht, Array.getD_eq_getD_getElem?]
  simp only [Option.bind_some]
  cases h : a.tmps[t]? with
  | none => simp [undef]
  | some v => cases v <;> simp
theorem guardE_ok {ops : Array Oper} {o : Oper} {st : St} {k : Bool → Prop} (h : guardE ops o st k) :
    ∃ g, k g ∧ (o.guard = none → g = true) ∧ ∀ (G : Gh) (w : World) (a : Act), (∀ l, l ∈ guardN ops o → RepL G w a l st) → Region.wanted o (yielded ops a.tmps) = g := by
  unfold guardE at h
  split at h
  · rename_i hg
    exact ⟨true, h, fun _ => rfl, fun G w a _ => by simp [Region.wanted, hg]⟩
  · rename_i j want hg
    split at h
    · exact h.elim
    · rename_i t ht
      have ht' : (ops[j]?).bind (·.dst) = some t := by simpa [guardT, hg] using ht
      have hN : ∀ (G : Gh) (w : World) (a : Act), (∀ l, l ∈ guardN ops o → RepL G w a l st) → Rep G.F w G.ι (a.tmps.getD t undef) (st.s t) := fun G w a h =>
        (h (.slot t) (by simp [guardN, ht])).1
      split at h
      · rename_i b hb
        refine ⟨_, h, fun h => (by rw [hg] at h; cases h), fun G w a hr => ?_⟩
        have h1 := hN G w a hr
        rw [hb] at h1
        simp only [Region.wanted, hg, yielded_of ht']
        generalize a.tmps.getD t undef = v at h1
        cases h1
        cases b <;> cases want <;> rfl
      · rename_i c b hb
        refine ⟨_, h, fun h => (by rw [hg] at h; cases h), fun G w a hr => ?_⟩
        have h1 := hN G w a hr
        rw [hb] at h1
        simp only [Region.wanted, hg, yielded_of ht']
        generalize a.tmps.getD t undef = v at h1
        cases h1 with
        | cond0 => simp [undef]
        | cond1 _ _ _ h2 => cases h2; cases b <;> cases want <;> rfl
      · exact h.elim
structure FrH (G : Gh) (w : World) (G' : Gh) (w' : World) (W : List Loc) : Prop where
  ext : Ext G w G' w'
  obj : ∀ i c, .obj i ∉ W → RepObj G w i c → RepObj G' w' i c
  tok : ∀ i c, .tok i ∉ W → RepTok G w i c → RepTok G' w' i c
theorem FrH.refl (G : Gh) (w : World) : FrH G w G w [] := ⟨.refl _ _, fun _ _ _ h => h, fun _ _ _ h => h⟩
def RepH (G : Gh) (w : World) (H : List AObj) (k : List Nat) : Loc → Prop
  | .slot _ => True
  | .obj i => RepObj G w i H[i]?
  | .tok i => RepTok G w i k[i]?
structure HFact (E : Env) (P : Program) (st : St) (o : Oper) (r : AV) (tag : Option Nat) (H : List AObj) (k : List Nat) (N W : List Loc) : Prop where
  noslot : ∀ t, .slot t ∉ W
  same : ∀ l, l ∉ W → match l with | .slot _ => True | .obj i => st.H[i]? = H[i]? | .tok i => st.k[i]? = k[i]?
  run : ∀ (B : Base) (G : Gh) (w : World) (a : Act), Good E B G w → (∀ l, l ∈ N → RepL G w a l st) → ∀ (K : Act → World → Prop) (Q : Exit → Act → World → Prop),
    (∀ G' w' v, Good E B G' w' → FrH G w G' w' W → RepSlot G' w' v r tag → (∀ l, l ∈ W → RepH G' w' H k l) → K (a.put o.dst v) w') → o.wp P a w K Q
theorem getD_put_same {a : Act} {d : Nat} {v : Value} (h : d < a.tmps.size) : (a.put (some d) v).tmps.getD d undef = v := by
  simp [Act.put, h]
theorem getD_put_other {a : Act} {d t : Nat} {v : Value} (h : t ≠ d) : (a.put (some d) v).tmps.getD t undef = a.tmps.getD t undef := by
  simp [Act.put, Array.getElem?_setIfInBounds_ne (Ne.symm h)]
theorem size_put (a : Act) (d : Option Nat) (v : Value) : (a.put d v).tmps.size = a.tmps.size := by cases d <;> simp [Act.put]
theorem defers_put (a : Act) (d : Option Nat) (v : Value) : (a.put d v).defers = a.defers := by cases d <;> rfl
theorem put_fr {G G' : Gh} {w w' : World} {a : Act} {dst : Option Nat} {v : Value} {W : List Loc} (h : FrH G w G' w' W) : Fr G w a G' w' (a.put dst v) (dstW dst ++ W) := by
  refine ⟨h.ext, fun t ht => ?_, fun i c hi => h.obj i c (fun hm => hi (List.mem_append_right _ hm)), fun i c hi => h.tok i c (fun hm => hi (List.mem_append_right _ hm)), defers_put ..⟩
  cases dst with
  | none => rfl
  | some d => exact getD_put_other (fun e => ht (by simp [dstW, e]))
theorem put_same {st : St} {dst : Option Nat} {v : AV} {tag : Option Nat} {H : List AObj} {k : List Nat} {W : List Loc}
    (h : ∀ l, l ∉ W → match l with | .slot _ => True | .obj i => st.H[i]? = H[i]? | .tok i => st.k[i]? = k[i]?) : ∀ l, l ∉ dstW dst ++ W → SameAt l st (st.put dst v tag H k) := by
  intro l hl
  have h1 := h l (fun hm => hl (List.mem_append_right _ hm))
  cases l with
  | slot t =>
    cases dst with
    | none => exact ⟨rfl, rfl⟩
    | some d =>
      have : t ≠ d := fun e => hl (by simp [dstW, e])
      exact ⟨(upd_other _ _ this).symm, (upd_other _ _ this).symm⟩
  | obj i => cases dst <;> exact h1
  | tok i => cases dst <;> exact h1
theorem put_rep {G : Gh} {w : World} {a : Act} {st : St} {dst : Option Nat} {v : Value} {r : AV} {tag : Option Nat} {H : List AObj} {k : List Nat} {W : List Loc} (hd : ∀ d, dst = some d → d < a.tmps.size)
    (hs : ∀ t, .slot t ∉ W) (hr : RepSlot G w v r tag) (hW : ∀ l, l ∈ W → RepH G w H k l) : ∀ l, l ∈ dstW dst ++ W → RepL G w (a.put dst v) l (st.put dst r tag H k) := by
  intro l hl
  rcases List.mem_append.1 hl with hl | hl
  · cases dst with
    | none => simp [dstW] at hl
    | some d =>
      simp only [dstW, List.mem_singleton] at hl
      subst hl
      simp only [RepL, St.put, upd_same]
      rw [getD_put_same (hd d rfl)]
      exact hr
  · have := hW l hl
    cases l with
    | slot t => exact absurd hl (hs t)
    | obj i => cases dst <;> exact this
    | tok i => cases dst <;> exact this
theorem step_do {E : Env} {P : Program} {ops : Array Oper} {o : Oper} {st : St} {r : AV} {tag : Option Nat} {H : List AObj} {k : List Nat} {N W : List Loc}
    (hg : ∀ (G : Gh) (w : World) (a : Act), (∀ l, l ∈ guardN ops o → RepL G w a l st) → Region.wanted o (yielded ops a.tmps) = true) (h : HFact E P st o r tag H k N W) :
    StepFact E P ops o st (st.put o.dst r tag H k) (guardN ops o ++ N) (dstW o.dst ++ W) := by
  refine ⟨put_same h.same, fun B G w a hgood hsz hd hN K Q hK => ?_⟩
  rw [if_pos (hg G w a fun l hl => hN l (List.mem_append_left _ hl))]
  refine h.run B G w a hgood (fun l hl => hN l (List.mem_append_right _ hl)) K Q fun G' w' v hg' hfr hrep hW => ?_
  exact hK G' w' _ hg' (by rw [size_put]; exact hsz) (put_fr hfr) (put_rep (fun d e => by rw [hsz]; exact hd d e) h.noslot hrep hW)
theorem step_skip {E : Env} {P : Program} {ops : Array Oper} {o : Oper} {st : St}
    (hg : ∀ (G : Gh) (w : World) (a : Act), (∀ l, l ∈ guardN ops o → RepL G w a l st) → Region.wanted o (yielded ops a.tmps) = false) (r : AV) :
    StepFact E P ops o st (st.put o.dst (.cond false r) none st.H st.k) (guardN ops o) (dstW o.dst ++ []) := by
  refine ⟨put_same (fun l _ => by cases l <;> trivial), fun B G w a hgood hsz hd hN K Q hK => ?_⟩
  rw [if_neg (by rw [hg G w a hN]; simp)]
  exact hK G w _ hgood (by rw [size_put]; exact hsz) (put_fr (.refl _ _)) (put_rep (fun d e => by rw [hsz]; exact hd d e) (by simp) ⟨.cond0 .., trivial⟩ (by simp))
theorem step_cond {E : Env} {P : Program} {ops : Array Oper} {o : Oper} {st : St} {g : Bool} {r : AV} {N : List Loc}
    (hg : ∀ (G : Gh) (w : World) (a : Act), (∀ l, l ∈ guardN ops o → RepL G w a l st) → Region.wanted o (yielded ops a.tmps) = g) (h : g = true → ∃ tag, HFact E P st o r tag st.H st.k N []) :
    StepFact E P ops o st (st.put o.dst (.cond g r) none st.H st.k) (guardN ops o ++ N) (dstW o.dst ++ []) := by
  cases g with
  | false =>
    have := step_skip (E := E) (P := P) hg r
    exact ⟨this.same, fun B G w a h1 h2 h3 h4 => this.run B G w a h1 h2 h3 fun l hl => h4 l (List.mem_append_left _ hl)⟩
  | true =>
    obtain ⟨tag, h⟩ := h rfl
    refine step_do hg ⟨h.noslot, h.same, fun B G w a h1 h2 K Q hK => h.run B G w a h1 h2 K Q fun G' w' v h3 h4 h5 h6 => hK G' w' v h3 h4 ⟨.cond1 _ _ _ h5.1, trivial⟩ h6⟩
theorem HFact.value {E : Env} {P : Program} {st : St} {o : Oper} {r : AV} {tag : Option Nat} {N : List Loc}
    (h : ∀ (B : Base) (G : Gh) (w : World) (a : Act), Good E B G w → (∀ l, l ∈ N → RepL G w a l st) → ∃ v, (execOp a.eval o).run P w = .ok (.value v) w ∧ RepSlot G w v r tag) : HFact E P st o r tag st.H st.k N [] := by
  refine ⟨by simp, fun l _ => by cases l <;> trivial, fun B G w a hg hN K Q hK => ?_⟩
  obtain ⟨v, hr, hrep⟩ := h B G w a hg hN
  unfold Oper.wp
  rw [hr]
  exact hK G w v hg (.refl _ _) hrep (by simp)
end Go.Pm
