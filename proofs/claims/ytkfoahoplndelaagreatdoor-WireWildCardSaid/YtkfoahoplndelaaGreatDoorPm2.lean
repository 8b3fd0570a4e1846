/-
  Generic: abstract states, what it means that a machine state fits one, and regions of operations: in the text's order, and in any order that a draw may give.
-/
import Derived.Test.YtkfoahoplndelaaGreatDoorPm1
import Derived.MapKept
namespace Go.Pm
open Go Go.RowKit
inductive SObj where
  | map (es : List (AV × AV))
  | iter (s : Bytes) (pos : Nat)
  | bld (T e : TypeId) (s : Bytes)
inductive AObj where
  | cells (t : TypeId) (cs : List AV) (tg : List (Nat × Nat))
  | mp (x : SObj)
  | dead
structure St where
  s : Nat → AV
  g : Nat → Option Nat
  H : List AObj
  k : List Nat
structure Env where
  W0 : World
  GB : Nat
structure Base where
  F : Nat → Nat → Prop
  O : Nat → Option (Nat ⊕ Nat)
  w : World
  nt : Nat
  ι : Nat → Option Nat := fun _ => none
  κ : Nat → Option (Nat × Nat × Nat) := fun _ => none
  nb : Nat := 0
  nk : Nat := 0
  df : List Deferred := []
structure Good (E : Env) (B : Base) (G : Gh) (w : World) : Prop where
  fin : ∀ b o, G.F b o → b < w.heap.size
  own : ∀ b i, G.O b = some i → b < w.heap.size ∧ E.GB ≤ b
  size : B.w.heap.size ≤ w.heap.size
  old : ∀ b, b < B.w.heap.size → B.O b = none → G.O b = none ∧ w.heap[b]? = B.w.heap[b]?
  keep : ∀ b o, B.F b o → G.F b o ∧ w.cell? ⟨b, o, none⟩ = B.w.cell? ⟨b, o, none⟩
  new : ∀ b o, G.F b o → B.F b o ∨ B.w.heap.size ≤ b ∨ B.O b ≠ none
  os : w.os = B.w.os
  tape : w.tape = B.w.tape
  output : w.output = B.w.output
  glob : ∀ b, b < E.GB → w.heap[b]? = E.W0.heap[b]?
  gb : E.GB ≤ w.heap.size
  ids : ∀ i g, B.ι i = some g → i < B.nb ∧ G.ι i = some g
  toks : ∀ i r, B.κ i = some r → i < B.nk ∧ G.κ i = some r
def AV.isList : AV → Bool
  | .list _ _ => true
  | _ => false
def AV.isAgg : AV → Bool
  | .agg _ => true
  | _ => false
def TagOk (G : Gh) (v : Value) (a : AV) : Option Nat → Prop
  | none => True
  | some i => (∃ sz xs n cap g lo hi ad, a = .list sz xs ∧ v = .slice ad n cap ∧ G.κ i = some (g, lo, hi) ∧ n = xs.length ∧ n ≤ cap ∧ cap ≤ maxLen ∧
      (n = cap ∨ (lo < hi ∧ ∃ o, ad = some ⟨g, o, none⟩ ∧ lo = o + n * sz ∧ hi = o + cap * sz))) ∨
    (∃ cs, a = .agg cs ∧ ∀ (j sz : Nat), i.testBit j = true → cs[j]? = some (.list sz []) → v.cells[j]? = some (.slice none 0 0))
theorem TagOk.list {G : Gh} {v : Value} {a : AV} {i : Nat} (h : TagOk G v a (some i)) (ha : ∀ cs, a ≠ .agg cs) : ∃ sz xs n cap g lo hi ad, a = .list sz xs ∧ v = .slice ad n cap ∧ G.κ i = some (g, lo, hi) ∧ n = xs.length ∧ n ≤ cap ∧ cap ≤ maxLen ∧
      (n = cap ∨ (lo < hi ∧ ∃ o, ad = some ⟨g, o, none⟩ ∧ lo = o + n * sz ∧ hi = o + cap * sz)) := h.resolve_right fun ⟨cs, e, _⟩ => ha cs e
def RepSlot (G : Gh) (w : World) (v : Value) (a : AV) (tag : Option Nat) : Prop := Rep G.F w G.ι v a ∧ TagOk G v a tag
def inFz (fz : Nat × Nat) (i : Nat) : Prop := fz.1 ≤ i ∧ i < fz.2
def MapAt (F : Nat → Nat → Prop) (w : World) (g : Nat) (es : List (AV × AV)) : Prop :=
  ∃ arr clock, w.heap[g]? = some (.map arr clock) ∧ arr.size = es.length ∧ ∀ (i : Nat) (e : MapEntry) (p : AV × AV), arr[i]? = some e → es[i]? = some p → Rep F w (fun _ => none) e.key p.1 ∧ Rep F w (fun _ => none) e.val p.2
theorem MapAt.keep {F F' : Nat → Nat → Prop} {w w' : World} {g : Nat} {es : List (AV × AV)} (h : MapAt F w g es) (hF : ∀ b o, F b o → F' b o) (hw : ∀ b o, F b o → w'.cell? ⟨b, o, none⟩ = w.cell? ⟨b, o, none⟩)
    (hg : w'.heap[g]? = w.heap[g]?) : MapAt F' w' g es := by
  obtain ⟨arr, clock, h1, h2, h3⟩ := h
  refine ⟨arr, clock, hg.trans h1, h2, fun i e p he hp => ?_⟩
  obtain ⟨r1, r2⟩ := h3 i e p he hp
  exact ⟨r1.mono hF hw _ fun _ _ h => h, r2.mono hF hw _ fun _ _ h => h⟩
def BldIn (F : Nat → Nat → Prop) (O : Nat → Option (Nat ⊕ Nat)) (id : Nat) (w : World) (T e : TypeId) (g : Nat) (s : Bytes) : Prop :=
  ∃ v, (∃ p, w.heap[g]? = some (.cells #[p, v] T (0, 0)) ∧ (p = .pointer none ∨ p = .pointer (some ⟨g, 0, none⟩))) ∧ w.ownsRow 0 e 1 v s.length (s.map fun b => Value.int .u8 b.toNat) ∧
    ∀ k, v.ownBlock = some k → O k = some (.inl id) ∧ ∀ x, ¬ F k x
def SpAt (F : Nat → Nat → Prop) (O : Nat → Option (Nat ⊕ Nat)) (id : Nat) (w : World) (g : Nat) : SObj → Prop
  | .map es => MapAt F w g es
  | .iter s pos => s.length ≤ maxLen ∧ w.heap[g]? = some (.stringIter ⟨s.toArray⟩ pos)
  | .bld T e s => BldIn F O id w T e g s
theorem SpAt.keep {F F' : Nat → Nat → Prop} {O O' : Nat → Option (Nat ⊕ Nat)} {id : Nat} {w w' : World} {g : Nat} {x : SObj} (h : SpAt F O id w g x) (hF : ∀ b o, F b o → F' b o) (hw : ∀ b o, F b o → w'.cell? ⟨b, o, none⟩ = w.cell? ⟨b, o, none⟩)
    (hO : ∀ k, O k = some (.inl id) → O' k = some (.inl id) ∧ w'.heap[k]? = w.heap[k]? ∧ ∀ x, F' k x → F k x) (hg : w'.heap[g]? = w.heap[g]?) : SpAt F' O' id w' g x := by
  cases x with
  | map es => exact MapAt.keep h hF hw hg
  | iter s pos => exact ⟨h.1, hg.trans h.2⟩
  | bld T e s =>
    obtain ⟨v, ⟨p, h1, h2⟩, h3, h4⟩ := h
    refine ⟨v, ⟨p, hg.trans h1, h2⟩, ⟨h3.1, ?_⟩, fun k hk => ⟨(hO k (h4 k hk).1).1, fun x hx => (h4 k hk).2 x ((hO k (h4 k hk).1).2.2 x hx)⟩⟩
    rcases h3.2 with hn | ⟨g2, cap, cur, rfl, hb, hgg, rest⟩
    · exact .inl hn
    · exact .inr ⟨g2, cap, cur, rfl, hb, ((hO g2 (h4 g2 rfl).1).2.1).trans hgg, rest⟩
def RepObj (G : Gh) (w : World) (id : Nat) : Option AObj → Prop
  | none => G.ι id = none
  | some .dead => True
  | some (.mp x) => ∃ g, G.ι id = some g ∧ G.O g = some (.inl id) ∧ (∀ x, ¬ G.F g x) ∧ SpAt G.F G.O id w g x
  | some (.cells t cs tg) => cs = [] ∨ ∃ g, G.ι id = some g ∧ G.O g = some (.inl id) ∧ (∀ x, ¬ G.F g x) ∧ ∃ vals fz, w.heap[g]? = some (.cells vals t fz) ∧
      (∀ i, i < vals.size → ¬ inFz fz i) ∧ cs.length ≤ vals.size ∧ ∀ (j : Nat) (c : AV), cs[j]? = some c → ∃ v, vals[j]? = some v ∧ v.oneCell' = true ∧ RepSlot G w v c (tg.lookup j)
def RepTok (G : Gh) (w : World) (i : Nat) : Option Nat → Prop
  | none => G.κ i = none
  | some 0 => True
  | some (_ + 2) => ∃ g lo, G.κ i = some (g, lo, lo)
  | some 1 => ∃ g lo hi, G.κ i = some (g, lo, hi) ∧ (lo < hi → G.O g = some (.inr i) ∧ (∀ x, lo ≤ x → ¬ G.F g x) ∧ ∃ vals t fz, w.heap[g]? = some (.cells vals t fz) ∧ hi ≤ vals.size ∧ ∀ x, lo ≤ x → x < hi → ¬ inFz fz x)
inductive Loc where
  | slot (t : Nat)
  | obj (i : Nat)
  | tok (i : Nat)
  deriving DecidableEq
def RepL (G : Gh) (w : World) (a : Act) : Loc → St → Prop
  | .slot t, st => RepSlot G w (a.tmps.getD t undef) (st.s t) (st.g t)
  | .obj i, st => RepObj G w i st.H[i]?
  | .tok i, st => RepTok G w i st.k[i]?
def SameAt : Loc → St → St → Prop
  | .slot t, s, s' => s.s t = s'.s t ∧ s.g t = s'.g t
  | .obj i, s, s' => s.H[i]? = s'.H[i]?
  | .tok i, s, s' => s.k[i]? = s'.k[i]?
theorem SameAt.refl (l : Loc) (s : St) : SameAt l s s := by cases l <;> simp [SameAt]
theorem SameAt.symm {l : Loc} {s s' : St} (h : SameAt l s s') : SameAt l s' s := by
  cases l <;> simp only [SameAt] at * <;> first | exact ⟨h.1.symm, h.2.symm⟩ | exact h.symm
theorem SameAt.trans {l : Loc} {s s' s'' : St} (h : SameAt l s s') (h' : SameAt l s' s'') : SameAt l s s'' := by
  cases l <;> simp only [SameAt] at * <;> first | exact ⟨h.1.trans h'.1, h.2.trans h'.2⟩ | exact h.trans h'
theorem RepL.congr {G : Gh} {w : World} {a : Act} {l : Loc} {s s' : St} (h : RepL G w a l s) (hs : SameAt l s s') : RepL G w a l s' := by
  cases l <;> simp only [SameAt, RepL] at *
  · rw [← hs.1, ← hs.2]; exact h
  · rw [← hs]; exact h
  · rw [← hs]; exact h
structure Ext (G : Gh) (w : World) (G' : Gh) (w' : World) : Prop where
  F : ∀ b o, G.F b o → G'.F b o
  ι : ∀ i g, G.ι i = some g → G'.ι i = some g
  κ : ∀ i r, G.κ i = some r → G'.κ i = some r
  w : ∀ b o, G.F b o → w'.cell? ⟨b, o, none⟩ = w.cell? ⟨b, o, none⟩
theorem Ext.refl (G : Gh) (w : World) : Ext G w G w := ⟨fun _ _ h => h, fun _ _ h => h, fun _ _ h => h, fun _ _ _ => rfl⟩
theorem Ext.trans {G G' G'' : Gh} {w w' w'' : World} (h : Ext G w G' w') (h' : Ext G' w' G'' w'') : Ext G w G'' w'' :=
  ⟨fun _ _ x => h'.F _ _ (h.F _ _ x), fun _ _ x => h'.ι _ _ (h.ι _ _ x), fun _ _ x => h'.κ _ _ (h.κ _ _ x), fun _ _ x => (h'.w _ _ (h.F _ _ x)).trans (h.w _ _ x)⟩
theorem TagOk.ext {G G' : Gh} {w w' : World} {v : Value} {a : AV} {tag : Option Nat} (h : TagOk G v a tag) (hx : Ext G w G' w') : TagOk G' v a tag := by
  cases tag with
  | none => trivial
  | some i =>
    rcases h with ⟨sz, xs, n, cap, g, lo, hi, ad, h1, h2, h3, h4⟩ | h
    · exact .inl ⟨sz, xs, n, cap, g, lo, hi, ad, h1, h2, hx.κ _ _ h3, h4⟩
    · exact .inr h
theorem RepSlot.ext {G G' : Gh} {w w' : World} {v : Value} {a : AV} {tag : Option Nat} (h : RepSlot G w v a tag) (hx : Ext G w G' w') : RepSlot G' w' v a tag :=
  ⟨h.1.mono hx.F hx.w _ hx.ι, h.2.ext hx⟩
structure Fr (G : Gh) (w : World) (a : Act) (G' : Gh) (w' : World) (a' : Act) (W : List Loc) : Prop where
  ext : Ext G w G' w'
  slot : ∀ t, .slot t ∉ W → a'.tmps.getD t undef = a.tmps.getD t undef
  obj : ∀ i c, .obj i ∉ W → RepObj G w i c → RepObj G' w' i c
  tok : ∀ i c, .tok i ∉ W → RepTok G w i c → RepTok G' w' i c
  defers : a'.defers = a.defers
theorem Fr.keep {G G' : Gh} {w w' : World} {a a' : Act} {W : List Loc} (h : Fr G w a G' w' a' W) {l : Loc} {st : St} (hl : l ∉ W) (hr : RepL G w a l st) : RepL G' w' a' l st := by
  cases l with
  | slot t => simp only [RepL] at *; rw [h.slot t hl]; exact hr.ext h.ext
  | obj i => exact h.obj _ _ hl hr
  | tok i => exact h.tok _ _ hl hr
structure StepFact (E : Env) (P : Program) (ops : Array Oper) (o : Oper) (pre post : St) (N W : List Loc) : Prop where
  same : ∀ l, l ∉ W → SameAt l pre post
  run : ∀ (B : Base) (G : Gh) (w : World) (a : Act), Good E B G w → a.tmps.size = B.nt → (∀ d, o.dst = some d → d < B.nt) → (∀ l, l ∈ N → RepL G w a l pre) →
    ∀ (K : Act → World → Prop) (Q : Exit → Act → World → Prop),
      (∀ G' w' a', Good E B G' w' → a'.tmps.size = B.nt → Fr G w a G' w' a' W → (∀ l, l ∈ W → RepL G' w' a' l post) → K a' w') →
      (if Region.wanted o (yielded ops a.tmps) = true then o.wp P a w K Q else K (a.put o.dst undef) w)
structure Conc (E : Env) (B : Base) (G : Gh) (w : World) (a : Act) (st : St) : Prop where
  good : Good E B G w
  size : a.tmps.size = B.nt
  defers : a.defers = B.df
  rep : ∀ l, RepL G w a l st
theorem Conc.step {E : Env} {B : Base} {G G' : Gh} {w w' : World} {a a' : Act} {pre post : St} {W : List Loc} (h : Conc E B G w a pre) (hg : Good E B G' w') (hsz : a'.tmps.size = B.nt)
    (hf : Fr G w a G' w' a' W) (hW : ∀ l, l ∈ W → RepL G' w' a' l post) (hs : ∀ l, l ∉ W → SameAt l pre post) : Conc E B G' w' a' post :=
  ⟨hg, hsz, hf.defers.trans h.defers, fun l => by
    by_cases hl : l ∈ W
    · exact hW l hl
    · exact (hf.keep hl (h.rep l)).congr (hs l hl)⟩
inductive Chain (E : Env) (P : Program) (ops : Array Oper) : List Oper → St → List (List Loc × List Loc) → St → Prop
  | nil (st) : Chain E P ops [] st [] st
  | cons (o rest st st' st'' N W ft) (h : StepFact E P ops o st st' N W) (hr : Chain E P ops rest st' ft st'') : Chain E P ops (o :: rest) st ((N, W) :: ft) st''
theorem wpOp_of {P : Program} {ops : Array Oper} {Q : Exit → Act → World → Prop} {i : Nat} {o : Oper} (ho : ops[i]? = some o) {K : Act → World → Prop} {a : Act} {w : World}
    (h : if Region.wanted o (yielded ops a.tmps) = true then o.wp P a w K Q else K (a.put o.dst undef) w) : wpOp P ops Q i K a w := by
  unfold wpOp
  simp only [ho]
  split
  · rename_i hw; rw [if_pos hw] at h; exact .inl h
  · rename_i hw; rw [if_neg hw] at h; exact h
def dstsOk (nt : Nat) (ops : Array Oper) : Bool := ops.toList.all fun o => match o.dst with | some d => Nat.blt d nt | none => true
theorem dstsOk.at {nt : Nat} {ops : Array Oper} (h : dstsOk nt ops = true) {i : Nat} {o : Oper} (ho : ops[i]? = some o) : ∀ d, o.dst = some d → d < nt := by
  intro d hd
  simp only [dstsOk, List.all_eq_true] at h
  have := h o (by rw [← Array.getElem?_toList] at ho; exact List.mem_of_getElem? ho)
  rw [hd] at this
  simpa [Nat.blt_eq] using this
theorem chain_text {E : Env} {P : Program} {ops : Array Oper} {Q : Exit → Act → World → Prop} {B : Base} (hd : dstsOk B.nt ops = true) :
    ∀ (l : List Oper) (i : Nat) (st st' : St) (ft : List (List Loc × List Loc)), ops.toList.drop i = l → Chain E P ops l st ft st' →
    ∀ (G : Gh) (w : World) (a : Act), Conc E B G w a st → (∀ G' w' a', Conc E B G' w' a' st' → Q .normal a' w') →
    wpOps P ops Q (List.range' i l.length) a w := by
  intro l
  induction l with
  | nil => intro i st st' ft _ hc G w a hst hQ; cases hc; exact hQ _ _ _ hst
  | cons o rest ih =>
    intro i st st' ft hdr hc G w a hst hQ
    cases hc with
    | cons _ _ _ stm _ N W ft' hf hr =>
      have hi : i < ops.toList.length := by
        rcases Nat.lt_or_ge i ops.toList.length with h | h
        · exact h
        · rw [List.drop_eq_nil_of_le h] at hdr; cases hdr
      rw [List.drop_eq_getElem_cons hi] at hdr
      injection hdr with h1 h2
      have ho : ops[i]? = some o := by rw [← Array.getElem?_toList, List.getElem?_eq_getElem hi, h1]
      simp only [List.length_cons, List.range'_succ]
      rw [wpOps_cons]
      refine wpOp_of ho (hf.run B G w a hst.good hst.size (dstsOk.at hd ho) (fun l _ => hst.rep l) _ _ fun G' w' a' hg hsz hfr hW => ?_)
      exact ih (i + 1) _ _ _ h2 hr G' w' a' (hst.step hg hsz hfr hW hf.same) hQ
def ancs (ops : List Oper) : List Nat :=
  ops.foldl (fun acc o => acc ++ [o.after.toList.foldl (fun s e => if Region.binds .any e then s ||| 2 ^ e.on ||| acc.getD e.on 0 else s) 0]) []
def clash (x y : List Loc × List Loc) : Bool := x.2.any (fun l => y.1.contains l || y.2.contains l) || y.2.any (fun l => x.1.contains l)
def ordOk (ops : List Oper) (ft : List (List Loc × List Loc)) : Bool :=
  let an := ancs ops
  (List.range ft.length).all fun j => (List.range j).all fun i => !clash (ft.getD i ([], [])) (ft.getD j ([], [])) || (an.getD j 0).testBit i
theorem fold_bits (acc : List Nat) (k : Nat) : ∀ (l : List Edge) (s : Nat),
    (l.foldl (fun s e => if Region.binds .any e then s ||| 2 ^ e.on ||| acc.getD e.on 0 else s) s).testBit k = true →
      s.testBit k = true ∨ ∃ e, e ∈ l ∧ Region.binds .any e = true ∧ (e.on = k ∨ (acc.getD e.on 0).testBit k = true) := by
  intro l
  induction l with
  | nil => intro s h; exact .inl h
  | cons e l ih =>
    intro s h
    rw [List.foldl_cons] at h
    rcases ih _ h with h | ⟨e', he, hb, hk⟩
    · by_cases hb : Region.binds .any e = true
      · rw [if_pos hb, Nat.testBit_or, Nat.testBit_or, Bool.or_eq_true, Bool.or_eq_true] at h
        rcases h with (h | h) | h
        · exact .inl h
        · rw [Nat.testBit_two_pow] at h
          exact .inr ⟨e, List.mem_cons_self .., hb, .inl (by simpa using h)⟩
        · exact .inr ⟨e, List.mem_cons_self .., hb, .inr h⟩
      · rw [if_neg hb] at h; exact .inl h
    · exact .inr ⟨e', List.mem_cons_of_mem _ he, hb, hk⟩
def Closed (ops : List Oper) (X : Nat → Prop) : Prop := ∀ (i : Nat) (o : Oper), ops[i]? = some o → X i → ∀ e, e ∈ o.after → Region.binds .any e = true → X e.on
theorem ancs_spec (X : Nat → Prop) : ∀ (ops : List Oper) (j k : Nat) (o : Oper), Closed ops X → ops[j]? = some o → (∀ e, e ∈ o.after → Region.binds .any e = true → X e.on) →
    ((ancs ops).getD j 0).testBit k = true → X k := by
  have key : ∀ (pre ops : List Oper) (acc : List Nat), acc.length = pre.length →
      (∀ (j k : Nat) (o : Oper), pre[j]? = some o → (acc.getD j 0).testBit k = true → (∀ (i : Nat) (o : Oper), (pre ++ ops)[i]? = some o → X i → ∀ e, e ∈ o.after → Region.binds .any e = true → X e.on) → (∀ e, e ∈ o.after → Region.binds .any e = true → X e.on) → X k) →
      ∀ (j k : Nat) (o : Oper), (pre ++ ops)[j]? = some o →
        ((ops.foldl (fun acc o => acc ++ [o.after.toList.foldl (fun s e => if Region.binds .any e then s ||| 2 ^ e.on ||| acc.getD e.on 0 else s) 0]) acc).getD j 0).testBit k = true →
        (∀ (i : Nat) (o : Oper), (pre ++ ops)[i]? = some o → X i → ∀ e, e ∈ o.after → Region.binds .any e = true → X e.on) → (∀ e, e ∈ o.after → Region.binds .any e = true → X e.on) → X k := by
    intro pre ops
    induction ops generalizing pre with
    | nil => intro acc _ h j k o ho hb hc he; exact h j k o (by simpa using ho) hb hc he
    | cons x rest ih =>
      intro acc hlen h j k o ho hb hc he
      rw [List.foldl_cons] at hb
      have happ : pre ++ x :: rest = (pre ++ [x]) ++ rest := by simp
      rw [happ] at ho hc
      refine ih (pre ++ [x]) _ (by simp [hlen]) ?_ j k o ho hb hc he
      intro j' k' o' ho' hb' hc' he'
      rw [← happ] at hc'
      by_cases hj : j' < pre.length
      · rw [List.getElem?_append_left hj] at ho'
        rw [List.getD_eq_getElem?_getD, List.getElem?_append_left (by omega), ← List.getD_eq_getElem?_getD] at hb'
        exact h j' k' o' ho' hb' hc' he'
      · have hj2 : j' = pre.length := by
          have := (List.getElem?_eq_some_iff.1 ho').1
          simp at this; omega
        subst hj2
        rw [List.getElem?_append_right (Nat.le_refl _)] at ho'
        simp only [Nat.sub_self, List.getElem?_cons_zero, Option.some.injEq] at ho'
        subst ho'
        rw [List.getD_eq_getElem?_getD, List.getElem?_append_right (by omega)] at hb'
        simp only [hlen, Nat.sub_self, List.getElem?_cons_zero, Option.getD_some] at hb'
        rcases fold_bits acc k' _ _ hb' with h0 | ⟨e, hem, hbe, hk⟩
        · simp at h0
        · have hXe := he' e (by simpa using hem) hbe
          rcases hk with hk | hk
          · rw [← hk]; exact hXe
          · have hlt : e.on < acc.length := by
              rcases Nat.lt_or_ge e.on acc.length with hh | hh
              · exact hh
              · rw [List.getD_eq_getElem?_getD, List.getElem?_eq_none hh] at hk; simp at hk
            have hpe : pre[e.on]? = some (pre[e.on]'(by omega)) := List.getElem?_eq_getElem (by omega)
            refine h e.on k' _ hpe hk hc' ?_
            exact hc' e.on _ (by rw [List.getElem?_append_left (by omega)]; exact hpe) hXe
  intro ops j k o hc ho he hb
  exact key [] ops [] rfl (by simp) j k o (by simpa using ho) (by simpa [ancs] using hb) (by simpa [Closed] using hc) he
end Go.Pm
