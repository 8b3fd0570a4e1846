/-
  Generic: maps of the call's own: made, written, looked up.
-/
import Derived.Test.YtommkfooolabhaaGreatDoorPm12r
import Derived.Lib.OthersKept
import Derived.Laws.Runes
namespace Go.Pm
open Go Go.RowKit
set_option linter.unusedVariables false
set_option linter.unusedSimpArgs false
section
variable {E : Env} {B : Base} {G : Gh} {w w' : World}
theorem new_map (h : Good E B G w) {id : Nat} (hid : G.ι id = none) (hw : Grown1 w w' (.map #[] 0)) :
    let G1 : Gh := { G with ι := setI G.ι id w.heap.size, O := setI G.O w.heap.size (.inl id) }
    Good E B G1 w' ∧ FrH G w G1 w' [.obj id] ∧ RepObj G1 w' id (some (.mp (.map []))) ∧ G1.ι id = some w.heap.size := by
  intro G1
  have hne : ∀ b i, G.O b = some i → b ≠ w.heap.size := fun b i hi => Nat.ne_of_lt (h.own b i hi).1
  have hx : Ext G w G1 w' := ⟨fun _ _ x => x, fun i g hi => by
    have : i ≠ id := fun e => by rw [e, hid] at hi; cases hi
    show setI G.ι id w.heap.size i = some g
    rw [setI_other _ _ this]; exact hi, fun _ _ x => x, fun b o hb => cell_congr (hw.old b (h.fin b o hb)), grows_old hw.old⟩
  refine ⟨h.step (by rw [hw.size]; omega) (fun b hb _ => hw.old b hb) (fun b o hb => hx.w b o hb) (fun _ _ x => x) (fun b o hb => ⟨by rw [hw.size]; have := h.fin b o hb; omega, .inl hb⟩) (fun b i hi => ?_) hw.os hw.tape hw.output hx, ⟨hx, fun i c hi hc => ?_, fun i c _ hc => ?_⟩, ?_, setI_same ..⟩
  · by_cases hb : b = w.heap.size
    · subst hb; exact ⟨by rw [hw.size]; omega, .inl (Nat.le_refl _)⟩
    · have hi' : G.O b = some i := by rw [← hi]; exact (setI_other _ _ hb).symm
      exact ⟨by rw [hw.size]; have := (h.own b i hi').1; omega, .inr (by rw [hi']; simp)⟩
  · have hne' : i ≠ id := fun e => hi (by simp [e])
    refine hc.keep hx (fun hn => by show setI _ _ _ i = none; rw [setI_other _ _ hne']; exact hn) fun g hg => ⟨?_, hw.old g (h.own g _ hg).1, fun _ x => x⟩
    show setI _ _ _ g = _
    rw [setI_other _ _ (hne g _ hg)]; exact hg
  · refine hc.keep hx (fun x => x) fun g hg => ⟨?_, hw.old g (h.own g _ hg).1, fun _ x => x⟩
    show setI _ _ _ g = _
    rw [setI_other _ _ (hne g _ hg)]; exact hg
  · exact ⟨w.heap.size, setI_same .., setI_same .., fun x hx' => absurd (h.fin _ _ hx') (Nat.lt_irrefl _), #[], 0, hw.new, rfl, fun i e p he => by simp at he⟩
theorem write_map (h : Good E B G w) {id g : Nat} (hid : G.ι id = some g) {es es' : List (AV × AV)} (hobj : RepObj G w id (some (.mp (.map es)))) (hsz : w'.heap.size = w.heap.size) (hold : ∀ b, b ≠ g → w'.heap[b]? = w.heap[b]?)
    (hos : w'.os = w.os) (htape : w'.tape = w.tape) (hout : w'.output = w.output) (hm : (∀ b o, G.F b o → w'.cell? ⟨b, o, none⟩ = w.cell? ⟨b, o, none⟩) → MapAt G.F w' g es') :
    Good E B G w' ∧ FrH G w G w' [.obj id] ∧ RepObj G w' id (some (.mp (.map es'))) := by
  obtain ⟨g', i1, i2, i3, i4⟩ := hobj
  rw [hid] at i1
  injection i1 with i1
  subst i1
  have hcell : ∀ b o, G.F b o → w'.cell? ⟨b, o, none⟩ = w.cell? ⟨b, o, none⟩ := fun b o hb => cell_congr (hold b (fun e => i3 o (e ▸ hb)))
  have hx : Ext G w G w' := ⟨fun _ _ x => x, fun _ _ x => x, fun _ _ x => x, hcell, grows_no hold fun vals t fz e => by obtain ⟨arr, clock, q, _⟩ := i4; rw [e] at q; cases q⟩
  refine ⟨h.step (by rw [hsz]; exact Nat.le_refl _) (fun b _ hn => hold b (fun e => by rw [e, i2] at hn; cases hn)) hcell (fun _ _ x => x) (fun b o hb => ⟨by rw [hsz]; exact h.fin b o hb, .inl hb⟩) (fun b i hi => ⟨by rw [hsz]; exact (h.own b i hi).1, .inr (by rw [hi]; simp)⟩) hos htape hout hx, ⟨hx, fun i c hi hc => ?_, fun i c _ hc => ?_⟩, ⟨g, hid, i2, i3, hm hcell⟩⟩
  · refine hc.keep hx (fun x => x) fun g2 hg2 => ⟨hg2, hold g2 (fun e => ?_), fun _ x => x⟩
    rw [e, i2] at hg2
    injection hg2 with hg2
    injection hg2 with hg2
    exact hi (by simp [hg2])
  · refine hc.keep hx (fun x => x) fun g2 hg2 => ⟨hg2, hold g2 (fun e => ?_), fun _ x => x⟩
    rw [e, i2] at hg2
    injection hg2 with hg2
    cases hg2
end
/-! ### Keys -/
/-- Keys: numbers, texts, structs of such. -/
def keyB (ks : List Nat) : AV → AV → Bool → Prop
  | .int k a, .int k' c, b => k = k' ∧ b = (a == c)
  | .str s, .str t, b => b = (s == t)
  | .agg xs, .agg ys, b => eqCells ks xs ys = some b
  | _, _, _ => False
def lookE (ks : List Nat) (z : AV) : List (AV × AV) → AV → AV → Bool → Prop
  | [], _, r, f => r = z ∧ f = false
  | (k0, v0) :: es, k, r, f => ∃ b, keyB ks k k0 b ∧ (b = true → r = v0 ∧ f = true) ∧ (b = false → lookE ks z es k r f)
def insE (ks : List Nat) : List (AV × AV) → AV → AV → List (AV × AV) → Prop
  | [], k, v, es' => es' = [(k, v)]
  | (k0, v0) :: es, k, v, es' => ∃ b, keyB ks k k0 b ∧ (b = true → es' = (k0, v) :: es) ∧ (b = false → ∃ es1, insE ks es k v es1 ∧ es' = (k0, v0) :: es1)
def keyD (ti : TI) (a : AV) : Bool :=
  match ti.desc, a with
  | .int k, .int k' _ => k == k'
  | .string, .str _ => true
  | .struct _, .agg xs => !ti.eqk.isEmpty && (eqCells ti.eqk xs xs).isSome
  | _, _ => false
theorem keyD_pu {ti : TI} {a : AV} (h : keyD ti a = true) : Pu a := by
  have key : ∀ (ks : List Nat) (xs ys : List AV), (eqCells ks xs ys).isSome = true → ∀ c, c ∈ xs → Pu c := by
    intro ks xs ys
    fun_induction eqCells ks xs ys with
    | case1 => intro _ c hc; cases hc
    | case5 => intro h; cases h
    | case6 => intro h; cases h
    | case2 ks s xs t ys ih =>
      intro h c hc
      rcases List.mem_cons.1 hc with rfl | hc
      · exact .str _
      · exact ih (by cases hh : eqCells ks xs ys <;> simp_all) c hc
    | case3 ks p xs q ys ih =>
      intro h c hc
      rcases List.mem_cons.1 hc with rfl | hc
      · exact .bool _
      · exact ih (by cases hh : eqCells ks xs ys <;> simp_all) c hc
    | case4 ks j m xs k n ys hk ih =>
      intro h c hc
      rcases List.mem_cons.1 hc with rfl | hc
      · exact .int ..
      · exact ih (by cases hh : eqCells ks xs ys <;> simp_all) c hc
  unfold keyD at h
  split at h
  · exact .int ..
  · exact .str _
  · rw [Bool.and_eq_true] at h
    exact .agg _ (key _ _ _ h.2)
  · cases h
theorem bytes_same (s t : Bytes) : ((⟨s.toArray⟩ : ByteArray) == ⟨t.toArray⟩) = (s == t) := by
  rw [Bool.eq_iff_iff, MapKept.bytes_beq]
  constructor
  · intro h
    injection h with h
    have : s = t := by simpa using congrArg Array.toList h
    rw [this]; simp
  · intro h; rw [eq_of_beq h]
theorem eqCells_same {F F' : Nat → Nat → Prop} {w w' : World} {ι ι' : Nat → Option Nat} : ∀ (ks : List Nat) (xs ys : List AV), eqCells ks xs ys = some true → ys = xs ∧ ∀ (vs us : List Value), vs.length = xs.length → us.length = ys.length →
    (∀ (i : Nat) (v : Value) (c : AV), vs[i]? = some v → xs[i]? = some c → Rep F w ι v c) → (∀ (i : Nat) (v : Value) (c : AV), us[i]? = some v → ys[i]? = some c → Rep F' w' ι' v c) → us = vs := by
  intro ks xs ys
  fun_induction eqCells ks xs ys with
  | case1 => intro _; exact ⟨rfl, fun vs us hv hu _ _ => by rw [List.eq_nil_of_length_eq_zero hv, List.eq_nil_of_length_eq_zero hu]⟩
  | case5 => intro h; cases h
  | case6 => intro h; cases h
  | case2 ks s xs t ys ih =>
    intro h
    simp only [Option.map_eq_some_iff, Bool.and_eq_true, beq_iff_eq] at h
    obtain ⟨c, hc, h1, rfl⟩ := h
    subst h1
    obtain ⟨i1, i2⟩ := ih hc
    refine ⟨by rw [i1], fun vs us hv hu hrv hru => ?_⟩
    cases vs with
    | nil => simp at hv
    | cons v vs =>
    cases us with
    | nil => simp at hu
    | cons u us =>
    have h1 := hrv 0 v _ rfl rfl
    have h2 := hru 0 u _ rfl rfl
    cases h1; cases h2
    rw [i2 vs us (by simpa using hv) (by simpa using hu) (fun i v c a1 a2 => hrv (i + 1) v c a1 a2) (fun i v c a1 a2 => hru (i + 1) v c a1 a2)]
  | case3 ks p xs q ys ih =>
    intro h
    simp only [Option.map_eq_some_iff, Bool.and_eq_true, beq_iff_eq] at h
    obtain ⟨c, hc, h1, rfl⟩ := h
    subst h1
    obtain ⟨i1, i2⟩ := ih hc
    refine ⟨by rw [i1], fun vs us hv hu hrv hru => ?_⟩
    cases vs with
    | nil => simp at hv
    | cons v vs =>
    cases us with
    | nil => simp at hu
    | cons u us =>
    have h1 := hrv 0 v _ rfl rfl
    have h2 := hru 0 u _ rfl rfl
    cases h1; cases h2
    rw [i2 vs us (by simpa using hv) (by simpa using hu) (fun i v c a1 a2 => hrv (i + 1) v c a1 a2) (fun i v c a1 a2 => hru (i + 1) v c a1 a2)]
  | case4 ks j m xs k n ys hk ih =>
    intro h
    simp only [Option.map_eq_some_iff, Bool.and_eq_true, beq_iff_eq] at h
    obtain ⟨c, hc, h1, rfl⟩ := h
    subst h1
    have hjk : j = k := by simpa [kindEq] using hk
    subst hjk
    obtain ⟨i1, i2⟩ := ih hc
    refine ⟨by rw [i1], fun vs us hv hu hrv hru => ?_⟩
    cases vs with
    | nil => simp at hv
    | cons v vs =>
    cases us with
    | nil => simp at hu
    | cons u us =>
    have h1 := hrv 0 v _ rfl rfl
    have h2 := hru 0 u _ rfl rfl
    cases h1; cases h2
    rw [i2 vs us (by simpa using hv) (by simpa using hu) (fun i v c a1 a2 => hrv (i + 1) v c a1 a2) (fun i v c a1 a2 => hru (i + 1) v c a1 a2)]
theorem sameBits_cells {F : Nat → Nat → Prop} {w : World} {ι : Nat → Option Nat} : ∀ (ks : List Nat) (xs ys : List AV), (eqCells ks xs ys).isSome = true → ∀ (vs : List Value), vs.length = xs.length →
    (∀ (i : Nat) (v : Value) (c : AV), vs[i]? = some v → xs[i]? = some c → Rep F w ι v c) → ((vs.zip vs).all fun (x, y) => Instr.sameBits 9999 x y) = true := by
  intro ks xs ys
  fun_induction eqCells ks xs ys with
  | case1 => intro _ vs hv _; rw [List.eq_nil_of_length_eq_zero hv]; rfl
  | case5 => intro h; cases h
  | case6 => intro h; cases h
  | case2 ks s xs t ys ih =>
    intro h vs hv hrv
    cases vs with
    | nil => simp at hv
    | cons v vs =>
    have h1 := hrv 0 v _ rfl rfl
    have ih' := ih (by cases hh : eqCells ks xs ys <;> simp_all) vs (by simpa using hv) (fun i v c a1 a2 => hrv (i + 1) v c a1 a2)
    cases h1
    simp only [List.zip_cons_cons, List.all_cons, ih', Bool.and_true, Instr.sameBits, bytes_same]
    simp
  | case3 ks p xs q ys ih =>
    intro h vs hv hrv
    cases vs with
    | nil => simp at hv
    | cons v vs =>
    have h1 := hrv 0 v _ rfl rfl
    have ih' := ih (by cases hh : eqCells ks xs ys <;> simp_all) vs (by simpa using hv) (fun i v c a1 a2 => hrv (i + 1) v c a1 a2)
    cases h1
    simp only [List.zip_cons_cons, List.all_cons, ih', Bool.and_true, Instr.sameBits]
    simp
  | case4 ks j m xs k n ys hk ih =>
    intro h vs hv hrv
    cases vs with
    | nil => simp at hv
    | cons v vs =>
    have h1 := hrv 0 v _ rfl rfl
    have ih' := ih (by cases hh : eqCells ks xs ys <;> simp_all) vs (by simpa using hv) (fun i v c a1 a2 => hrv (i + 1) v c a1 a2)
    cases h1
    simp only [List.zip_cons_cons, List.all_cons, ih', Bool.and_true, Instr.sameBits]
    simp
theorem eqCells_rep {F F' : Nat → Nat → Prop} {w w' w2 : World} {ι ι' : Nat → Option Nat} : ∀ (ks : List Nat) (xs ys : List AV), (eqCells ks xs ys).isSome = true → ∀ (vs us : List Value), vs.length = xs.length → us.length = ys.length →
    (∀ (i : Nat) (v : Value) (c : AV), vs[i]? = some v → xs[i]? = some c → Rep F w ι v c) → (∀ (i : Nat) (v : Value) (c : AV), us[i]? = some v → ys[i]? = some c → Rep F' w' ι' v c) →
    (∀ (i : Nat) (v : Value) (c : AV), vs[i]? = some v → xs[i]? = some c → Rep (fun _ _ => False) w2 (fun _ => none) v c) ∧ (∀ (i : Nat) (v : Value) (c : AV), us[i]? = some v → ys[i]? = some c → Rep (fun _ _ => False) w2 (fun _ => none) v c) := by
  intro ks xs ys
  have one : ∀ (F : Nat → Nat → Prop) (w : World) (ι : Nat → Option Nat) (v : Value) (c : AV), Rep F w ι v c → ((∃ s, c = .str s) ∨ (∃ b, c = .bool b) ∨ ∃ k n, c = .int k n) → Rep (fun _ _ => False) w2 (fun _ => none) v c := by
    rintro F w ι v c h (⟨s, rfl⟩ | ⟨b, rfl⟩ | ⟨k, n, rfl⟩)
    · cases h with | str _ _ hw => exact .str _ _ hw
    · cases h; exact .bool ..
    · cases h with | int _ _ _ hw => exact .int _ _ _ hw
  fun_induction eqCells ks xs ys with
  | case1 => intro _ vs us _ _ _ _; exact ⟨fun i v c _ h => by simp at h, fun i v c _ h => by simp at h⟩
  | case5 => intro h; cases h
  | case6 => intro h; cases h
  | case2 ks s xs t ys ih =>
    intro h vs us hv hu hrv hru
    cases vs with
    | nil => simp at hv
    | cons v vs =>
    cases us with
    | nil => simp at hu
    | cons u us =>
    obtain ⟨i1, i2⟩ := ih (by cases hh : eqCells ks xs ys <;> simp_all) vs us (by simpa using hv) (by simpa using hu) (fun i v c a1 a2 => hrv (i + 1) v c a1 a2) (fun i v c a1 a2 => hru (i + 1) v c a1 a2)
    refine ⟨fun i v' c a1 a2 => ?_, fun i v' c a1 a2 => ?_⟩
    · cases i with
      | zero => injection a1 with a1; injection a2 with a2; subst a1 a2; exact one _ _ _ _ _ (hrv 0 _ _ rfl rfl) (.inl ⟨_, rfl⟩)
      | succ i => exact i1 i v' c a1 a2
    · cases i with
      | zero => injection a1 with a1; injection a2 with a2; subst a1 a2; exact one _ _ _ _ _ (hru 0 _ _ rfl rfl) (.inl ⟨_, rfl⟩)
      | succ i => exact i2 i v' c a1 a2
  | case3 ks p xs q ys ih =>
    intro h vs us hv hu hrv hru
    cases vs with
    | nil => simp at hv
    | cons v vs =>
    cases us with
    | nil => simp at hu
    | cons u us =>
    obtain ⟨i1, i2⟩ := ih (by cases hh : eqCells ks xs ys <;> simp_all) vs us (by simpa using hv) (by simpa using hu) (fun i v c a1 a2 => hrv (i + 1) v c a1 a2) (fun i v c a1 a2 => hru (i + 1) v c a1 a2)
    refine ⟨fun i v' c a1 a2 => ?_, fun i v' c a1 a2 => ?_⟩
    · cases i with
      | zero => injection a1 with a1; injection a2 with a2; subst a1 a2; exact one _ _ _ _ _ (hrv 0 _ _ rfl rfl) (.inr (.inl ⟨_, rfl⟩))
      | succ i => exact i1 i v' c a1 a2
    · cases i with
      | zero => injection a1 with a1; injection a2 with a2; subst a1 a2; exact one _ _ _ _ _ (hru 0 _ _ rfl rfl) (.inr (.inl ⟨_, rfl⟩))
      | succ i => exact i2 i v' c a1 a2
  | case4 ks j m xs k n ys hk ih =>
    intro h vs us hv hu hrv hru
    cases vs with
    | nil => simp at hv
    | cons v vs =>
    cases us with
    | nil => simp at hu
    | cons u us =>
    obtain ⟨i1, i2⟩ := ih (by cases hh : eqCells ks xs ys <;> simp_all) vs us (by simpa using hv) (by simpa using hu) (fun i v c a1 a2 => hrv (i + 1) v c a1 a2) (fun i v c a1 a2 => hru (i + 1) v c a1 a2)
    refine ⟨fun i v' c a1 a2 => ?_, fun i v' c a1 a2 => ?_⟩
    · cases i with
      | zero => injection a1 with a1; injection a2 with a2; subst a1 a2; exact one _ _ _ _ _ (hrv 0 _ _ rfl rfl) (.inr (.inr ⟨_, _, rfl⟩))
      | succ i => exact i1 i v' c a1 a2
    · cases i with
      | zero => injection a1 with a1; injection a2 with a2; subst a1 a2; exact one _ _ _ _ _ (hru 0 _ _ rfl rfl) (.inr (.inr ⟨_, _, rfl⟩))
      | succ i => exact i2 i v' c a1 a2
structure KeyR (P : Program) (kt : TypeId) (kv : Value) (Same : Value → Bool → Prop) (srch : List MapEntry → Nat → Option (Nat × Value) → Prop) : Prop where
  nil : ∀ i, srch [] i none
  hit : ∀ e L i, Same e.key true → srch (e :: L) i (some (i, e.val))
  miss : ∀ e L i r, Same e.key false → srch L (i + 1) r → srch (e :: L) i r
  run : ∀ L r w, srch L 0 r → (Instr.findKey kt kv L).run P w = .ok r w
  check : ∀ em w, (Instr.checkKey em 10000 kt kv).run P w = .ok () w
  stays : ∀ w, (Instr.keyThatStays kv kv).run P w = .ok kv w
theorem fields_check {P : Program} {em : Bool} {n : Nat} {ks : List Nat} {xs : List AV} {F : Nat → Nat → Prop} {w0 : World} {ι : Nat → Option Nat} : ∀ (fs : List Field) (ks : List Nat) (off : Nat) (A : Array Value) (w : World), eqFld P ks fs off = true → (∀ j, j < ks.length → ∃ v, A[off + j]? = some v) →
    (forIn fs PUnit.unit fun f _ => do
      if f.name ≠ "_" then
        Instr.checkKey em (n + 1) f.type (← part f.type A f.offset)
        pure (ForInStep.yield PUnit.unit)
      else pure (ForInStep.yield PUnit.unit) : Sem PUnit).run P w = .ok PUnit.unit w := by
  intro fs
  induction fs with
  | nil => intro ks off A w _ _; rfl
  | cons f fs ih =>
    intro ks off A w hf hA
    cases ks with
    | nil => simp [eqFld] at hf
    | cons k ks =>
    simp only [eqFld, Bool.and_eq_true, beq_iff_eq, bne_iff_ne] at hf
    obtain ⟨⟨⟨f1, f2⟩, f3⟩, f4⟩ := hf
    obtain ⟨v, hv⟩ := hA 0 (by simp)
    rw [Nat.add_zero] at hv
    obtain ⟨d, hu, hd⟩ : ∃ d, P.underlying f.type = some d ∧ (d = .string ∨ d = .bool ∨ ∃ q, d = .int q) := by
      split at f3
      · exact ⟨_, by assumption, .inl rfl⟩
      · exact ⟨_, by assumption, .inr (.inl rfl)⟩
      · exact ⟨_, by assumption, .inr (.inr ⟨_, rfl⟩)⟩
      · cases f3
    have hag : ∀ w, (isAgg f.type).run P w = .ok false w := fun w => by rcases hd with rfl | rfl | ⟨q, rfl⟩ <;> simp [isAgg, run_underlying hu]
    have hck : ∀ w, (Instr.checkKey em (n + 1) f.type v).run P w = .ok () w := fun w => by
      unfold Instr.checkKey
      simp only [Sem.run_bind, run_underlying hu, Result.andThen_ok]
      rcases hd with rfl | rfl | ⟨q, rfl⟩ <;> rfl
    have hpart : (part f.type A f.offset).run P w = .ok v w := by
      simp only [part, Sem.run_bind, hag, Result.andThen_ok, Bool.false_eq_true, if_false, f1, hv, Sem.run_pure]
    simp only [List.forIn_cons, Sem.run_bind, if_pos f2, hpart, hck, Result.andThen_ok, Sem.run_pure]
    exact ih ks (off + 1) A w f4 fun j hj => by
      obtain ⟨u, hu⟩ := hA (j + 1) (by simpa using hj)
      exact ⟨u, by rw [show off + 1 + j = off + (j + 1) by omega]; exact hu⟩
theorem eqCells_len : ∀ (ks : List Nat) (xs ys : List AV), (eqCells ks xs ys).isSome = true → xs.length = ks.length := by
  intro ks xs ys
  fun_induction eqCells ks xs ys with
  | case1 => intro _; rfl
  | case5 => intro h; cases h
  | case6 => intro h; cases h
  | case2 ks s xs t ys ih => intro h; rw [List.length_cons, List.length_cons, ih (by cases hh : eqCells ks xs ys <;> simp_all)]
  | case3 ks p xs q ys ih => intro h; rw [List.length_cons, List.length_cons, ih (by cases hh : eqCells ks xs ys <;> simp_all)]
  | case4 ks j m xs k n ys hk ih => intro h; rw [List.length_cons, List.length_cons, ih (by cases hh : eqCells ks xs ys <;> simp_all)]
theorem key_law {P : Program} {kt : TypeId} {ki : TI} (hf : TFact P kt ki) {F : Nat → Nat → Prop} {w : World} {ι : Nat → Option Nat} {ka : AV} {kv : Value} (hd : keyD ki ka = true) (h : Rep F w ι kv ka) :
    ∃ Same srch, KeyR P kt kv Same srch ∧ ∀ (F' : Nat → Nat → Prop) (w' : World) (ι' : Nat → Option Nat) (v0 : Value) (a0 : AV) (b : Bool), Rep F' w' ι' v0 a0 → keyB ki.eqk ka a0 b → Same v0 b ∧ (b = true → v0 = kv ∧ a0 = ka) := by
  have hu := hf.under
  have basic : MapKept.IsKey ki.desc kv → KeyR P kt kv (fun v b => Instr.sameNow ki.desc kv v = some b) (fun L i r => Instr.findNow ki.desc kv L i = some r) := fun hk =>
    ⟨fun i => rfl, fun e L i hs => by simp [Instr.findNow, hs], fun e L i r hs hr => by simp [Instr.findNow, hs, hr], fun L r w hr => MapKept.run_findKey hu hr, fun em w => MapKept.run_checkKey hu hk em 9999, fun w => MapKept.run_keyThatStays hk⟩
  unfold keyD at hd
  split at hd
  · rename_i k k' n hdesc
    have hk := eq_of_beq hd
    subst hk
    cases h with
    | int _ _ _ hw =>
    refine ⟨_, _, basic (by rw [hdesc]; exact rfl), fun F' w' ι' v0 a0 b h0 hb => ?_⟩
    cases a0 <;> first | exact hb.elim | skip
    obtain ⟨rfl, rfl⟩ := hb
    cases h0
    refine ⟨by rw [hdesc]; simp [Instr.sameNow], fun h => ?_⟩
    rw [eq_of_beq h]; exact ⟨rfl, rfl⟩
  · rename_i s hdesc
    cases h with
    | str _ _ hw =>
    refine ⟨_, _, basic (by rw [hdesc]; trivial), fun F' w' ι' v0 a0 b h0 hb => ?_⟩
    cases a0 <;> first | exact hb.elim | skip
    rename_i t
    have hb : b = (s == t) := hb
    subst hb
    cases h0
    refine ⟨?_, fun h => by rw [eq_of_beq h]; exact ⟨rfl, rfl⟩⟩
    rw [hdesc]
    show some ((⟨s.toArray⟩ : ByteArray) == ⟨t.toArray⟩) = some (s == t)
    rw [bytes_same]
  · rename_i fs0 xs hdesc
    rw [Bool.and_eq_true] at hd
    obtain ⟨hne, hself⟩ := hd
    have heq := hf.eqs
    have hne' : ki.eqk.isEmpty = false := by simpa using hne
    rw [hne'] at heq
    simp only [Bool.false_or, eqTyOk, Bool.and_eq_true, Bool.not_eq_true'] at heq
    obtain ⟨⟨h1, h2⟩, h3⟩ := heq
    obtain ⟨fs, hfs, hfl⟩ : ∃ fs, P.underlying kt = some (.struct fs) ∧ eqFld P ki.eqk fs.toList 0 = true := by
      split at h1
      · rename_i fs hh; exact ⟨fs, hh, h1⟩
      · cases h1
    have hfo : P.fieldsOf kt = fs := by simp [Program.fieldsOf, hfs]
    cases h with
    | agg _ vs _ hl _ hr =>
    have hlk := eqCells_len _ _ _ hself
    refine ⟨fun v b => ∀ w, (Op.equal kt (.agg vs.toArray) v).run P w = .ok b w, fun L i r => ∀ w, (Instr.findAsking kt (.agg vs.toArray) L i).run P w = .ok r w, ⟨fun i w => by simp [Instr.findAsking], fun e L i hs w => by simp [Instr.findAsking, hs], fun e L i r hs hr w => by simp [Instr.findAsking, hs, hr], fun L r w hr => ?_, fun em w => ?_, fun w => ?_⟩, fun F' w' ι' v0 a0 b h0 hb => ?_⟩
    · cases L with
      | nil =>
        have := hr w
        simp [Instr.findAsking] at this
        subst this
        simp [Instr.findKey, run_underlying hfs, Instr.findNow, Result.andThen]
      | cons e L =>
        have hn : Instr.findNow (.struct fs) (.agg vs.toArray) (e :: L) 0 = none := by
          simp [Instr.findNow, Instr.sameNow]
        simp [Instr.findKey, run_underlying hfs, hn, Result.andThen, hr w]
    · unfold Instr.checkKey
      simp only [Sem.run_bind, run_underlying hfs, Result.andThen_ok]
      have := fields_check (P := P) (em := em) (n := 9998) (ks := ki.eqk) (xs := xs) (F := F) (w0 := w) (ι := ι) fs.toList ki.eqk 0 vs.toArray w hfl (fun j hj => ⟨vs[j]'(by omega), by rw [Nat.zero_add]; simp⟩)
      rw [← Array.forIn_toList, this]
      rfl
    · have := sameBits_cells _ _ _ hself vs hl hr
      have h9 : Instr.sameBits 10000 (.agg vs.toArray) (.agg vs.toArray) = true := by
        show (vs.toArray.size == vs.toArray.size && (vs.toArray.toList.zip vs.toArray.toList).all fun (x, y) => Instr.sameBits 9999 x y) = true
        rw [Bool.and_eq_true]
        exact ⟨by simp, this⟩
      simp [Instr.keyThatStays, h9]
    · cases a0 <;> first | exact hb.elim | skip
      rename_i ys
      have hb : eqCells ki.eqk xs ys = some b := hb
      cases h0 with
      | agg _ us _ hl' _ hr' =>
      refine ⟨fun w2 => ?_, fun hbt => ?_⟩
      · show (Op.equalIn 10000 kt _ _).run P w2 = _
        rw [run_equalIn_agg _ _ _ _ _ (by rw [hfo]; exact hfs) h2, hfo]
        obtain ⟨hr1, hr2⟩ : (∀ (i : Nat) (v : Value) (c : AV), vs[i]? = some v → xs[i]? = some c → Rep (fun _ _ => False) w2 (fun _ => none) v c) ∧ (∀ (i : Nat) (v : Value) (c : AV), us[i]? = some v → ys[i]? = some c → Rep (fun _ _ => False) w2 (fun _ => none) v c) := by
          exact eqCells_rep _ _ _ (by rw [hb]; rfl) vs us hl hl' hr hr'
        exact eqFields_ok _ _ _ _ hb vs us hl hl' hr1 hr2 _ 0 _ _ (fun j hj => by simp) (fun j hj => by simp) hfl
      · subst hbt
        obtain ⟨e1, e2⟩ := eqCells_same _ _ _ hb
        exact ⟨by rw [e2 vs us hl hl' hr hr'], by rw [e1]⟩
  · cases hd
section
variable {P : Program} {kt : TypeId} {F : Nat → Nat → Prop} {w : World} {ks : List Nat} {a : AV} {kv : Value} {Same : Value → Bool → Prop} {srch : List MapEntry → Nat → Option (Nat × Value) → Prop}
theorem find_map (hK : KeyR P kt kv Same srch) (hS : ∀ (F' : Nat → Nat → Prop) (w' : World) (ι' : Nat → Option Nat) (v0 : Value) (a0 : AV) (b : Bool), Rep F' w' ι' v0 a0 → keyB ks a a0 b → Same v0 b ∧ (b = true → v0 = kv ∧ a0 = a)) {z r : AV} {f : Bool} : ∀ (es : List (AV × AV)) (L : List MapEntry) (i0 : Nat), L.length = es.length →
    (∀ (i : Nat) (e : MapEntry) (p : AV × AV), L[i]? = some e → es[i]? = some p → Rep F w (fun _ => none) e.key p.1 ∧ Rep F w (fun _ => none) e.val p.2) → lookE ks z es a r f →
    (f = false ∧ r = z ∧ srch L i0 none) ∨ (f = true ∧ ∃ j v, srch L i0 (some (j, v)) ∧ Rep F w (fun _ => none) v r)
  | [], [], i0, _, _, hl => .inl ⟨hl.2, hl.1, hK.nil _⟩
  | [], _ :: _, _, hn, _, _ => by simp at hn
  | _ :: _, [], _, hn, _, _ => by simp at hn
  | (k0, v0) :: es, e :: L, i0, hn, hr, hl => by
    obtain ⟨b, hb, h1, h2⟩ := hl
    obtain ⟨r0, r1⟩ := hr 0 e (k0, v0) rfl rfl
    obtain ⟨hs, _⟩ := hS _ _ _ _ _ _ r0 hb
    cases b with
    | true =>
      obtain ⟨rfl, rfl⟩ := h1 rfl
      exact .inr ⟨rfl, i0, e.val, hK.hit _ _ _ hs, r1⟩
    | false =>
      rcases find_map hK hS es L (i0 + 1) (by simpa using hn) (fun i e p he hp => hr (i + 1) e p (by simpa using he) (by simpa using hp)) (h2 rfl) with ⟨h3, h4, h5⟩ | ⟨h3, j, v, h5, h6⟩
      · exact .inl ⟨h3, h4, hK.miss _ _ _ _ hs h5⟩
      · exact .inr ⟨h3, j, v, hK.miss _ _ _ _ hs h5, h6⟩
theorem ins_map (hK : KeyR P kt kv Same srch) (hS : ∀ (F' : Nat → Nat → Prop) (w' : World) (ι' : Nat → Option Nat) (v0 : Value) (a0 : AV) (b : Bool), Rep F' w' ι' v0 a0 → keyB ks a a0 b → Same v0 b ∧ (b = true → v0 = kv ∧ a0 = a)) {va : AV} : ∀ (es es' : List (AV × AV)) (L : List MapEntry) (i0 : Nat), L.length = es.length →
    (∀ (i : Nat) (e : MapEntry) (p : AV × AV), L[i]? = some e → es[i]? = some p → Rep F w (fun _ => none) e.key p.1 ∧ Rep F w (fun _ => none) e.val p.2) → insE ks es a va es' →
    (srch L i0 none ∧ es' = es ++ [(a, va)]) ∨ (∃ j e, srch L i0 (some (i0 + j, e.val)) ∧ L[j]? = some e ∧ e.key = kv ∧ es' = es.set j (a, va))
  | [], es', [], i0, _, _, hl => .inl ⟨hK.nil _, hl⟩
  | [], _, _ :: _, _, hn, _, _ => by simp at hn
  | _ :: _, _, [], _, hn, _, _ => by simp at hn
  | (k0, v0) :: es, es', e :: L, i0, hn, hr, hl => by
    obtain ⟨b, hb, h1, h2⟩ := hl
    obtain ⟨r0, r1⟩ := hr 0 e (k0, v0) rfl rfl
    obtain ⟨hs, he⟩ := hS _ _ _ _ _ _ r0 hb
    cases b with
    | true =>
      obtain ⟨e1, e2⟩ := he rfl
      refine .inr ⟨0, e, hK.hit _ _ _ hs, rfl, e1, ?_⟩
      rw [h1 rfl]
      have e2 : k0 = a := e2
      rw [e2]; rfl
    | false =>
      obtain ⟨es1, h3, rfl⟩ := h2 rfl
      rcases ins_map hK hS es es1 L (i0 + 1) (by simpa using hn) (fun i e p he hp => hr (i + 1) e p (by simpa using he) (by simpa using hp)) h3 with ⟨h4, rfl⟩ | ⟨j, e', h4, h5, h6, rfl⟩
      · exact .inl ⟨hK.miss _ _ _ _ hs h4, rfl⟩
      · exact .inr ⟨j + 1, e', hK.miss _ _ _ _ hs (by rw [show i0 + (j + 1) = i0 + 1 + j by omega]; exact h4), by simpa using h5, h6, rfl⟩
end
theorem puL_pu {a : AV} (hf : a.flatB = true) (h : a.puL = true) : Pu a := by
  unfold AV.puL at h
  cases a with
  | agg cs => exact .agg _ fun c hc => AV.puB_ok (List.all_eq_true.1 h c hc)
  | _ => first | exact AV.puB_ok (List.all_eq_true.1 h _ (List.mem_singleton.2 rfl)) | (simp [AV.flatB, AV.one] at hf)
section
variable {E : Env} {P : Program} {T : Tab} {st : St} {o : Oper}
def evMakeMap (st : St) (k : KH) : Prop := k (.mapv st.H.length) none (st.H ++ [.mp (.map [])]) st.k [.obj st.H.length] [.obj st.H.length]
theorem evMakeMap_ok {k : KH} {ty : TypeId} (ho : o.op = .makeMap ty none) (h : evMakeMap st k) : YldH E P st o k := by
  unfold evMakeMap at h
  refine ⟨_, _, _, _, _, _, h, ⟨by simp, fun l hl => ?_, fun B G w a hg hN K Q hK => ?_⟩⟩
  · cases l with
    | slot => trivial
    | obj i => exact app_same _ _ (fun e => hl (by simp [e]))
    | tok i => rfl
  · have hid : G.ι st.H.length = none := by
      have := hN (.obj st.H.length) (by simp)
      simp only [RepL] at this
      rw [List.getElem?_eq_none (Nat.le_refl _)] at this
      exact this
    obtain ⟨g1, g2, g3, g4⟩ := new_map hg hid (grown1_alloc w (.map #[] 0))
    have hrun : (execOp a.eval o).run P w = .ok (.value (.map (some w.heap.size))) (w.alloc (.map #[] 0)) := by
      simp [execOp, ho, Instr.makeMap]
    unfold Oper.wp
    rw [hrun]
    refine hK _ _ _ g1 g2 ⟨.mapv _ _ _ g4, trivial⟩ fun l hl => ?_
    simp only [List.mem_singleton] at hl
    subst hl
    simp only [RepH]
    rw [List.getElem?_append_right (Nat.le_refl _), Nat.sub_self]
    exact g3
def AV.fnB : AV → Bool
  | .fn _ [] c => c.all AV.puB
  | _ => false
theorem or_pu {a : AV} (hf : a.flatB = true) (h : (a.puL || a.fnB) = true) : Pu a := by
  rw [Bool.or_eq_true] at h
  rcases h with h | h
  · exact puL_pu hf h
  · unfold AV.fnB at h
    split at h
    · exact .fn _ _ _ (by simp) fun c hc => AV.puB_ok (List.all_eq_true.1 h c hc)
    · cases h
def evInsert (T : Tab) (st : St) (ty : TypeId) (m i x : Operand) (k : KH) : Prop :=
  unc true (evV T st 0 m) fun a => unc true (evV T st 0 i) fun ka => unc true (evV T st 0 x) fun va => match T.at ty, a with
    | some ti, .mapv id => match ti.desc with
      | .map kt _ => optE (T.at kt) fun ki => optE st.H[id]? fun ob => match ob with
        | .mp (.map es) => (keyD ki ka = true ∧ va.flatB = true ∧ (va.puL || va.fnB) = true) ∧ ∃ es', insE ki.eqk es ka va es' ∧ k .any none (st.H.set id (.mp (.map es'))) st.k (opN m ++ (opN i ++ opN x) ++ [.obj id]) [.obj id]
        | _ => False
      | _ => False
    | _, _ => False
theorem evInsert_ok (hT : TOk P T) {k : KH} {ty : TypeId} {m i x : Operand} (hc : constOk T o = true) (ho : o.op = .insert ty m i x ∨ o.op = .mapUpdate ty m i x) (h : evInsert T st ty m i x k) : YldH E P st o k := by
  unfold evInsert at h
  obtain ⟨a', h, ha'⟩ := unc_ok h
  obtain ⟨ka, h, hka⟩ := unc_ok h
  obtain ⟨va, h, hva⟩ := unc_ok h
  have hcs : cOk T 0 m = true ∧ cOk T 0 i = true ∧ cOk T 0 x = true := by
    rcases ho with ho | ho <;> exact ⟨constOk.at hc (by simp [opcs, ho]), constOk.at hc (by simp [opcs, ho]), constOk.at hc (by simp [opcs, ho])⟩
  split at h
  · rename_i ti id hti _ _
    have hf := hT _ _ hti
    have hu := hf.under
    split at h
    · rename_i kt et hd
      rw [hd] at hu
      obtain ⟨ki, hki, h⟩ := optE_ok h
      have huk := (hT _ _ hki).under
      obtain ⟨ob, hob, h⟩ := optE_ok h
      split at h
      · rename_i es
        obtain ⟨⟨h1, h2, h3⟩, es', hes, h⟩ := h
        refine ⟨_, _, _, _, _, _, h, ⟨by simp, fun l hl => ?_, fun B G w a hg hN K Q hK => ?_⟩⟩
        · cases l with
          | slot => trivial
          | obj i => exact set_same _ _ _ _ (fun e => hl (by simp [e]))
          | tok i => rfl
        · have r1 := ha' rfl _ _ _ _ (evV_ok (T := T) hg hcs.1 fun l hl => hN l (by simp [hl])).1
          have r2 := hka rfl _ _ _ _ (evV_ok (T := T) hg hcs.2.1 fun l hl => hN l (by simp [hl])).1
          have r3 := (hva rfl _ _ _ _ (evV_ok (T := T) hg hcs.2.2 fun l hl => hN l (by simp [hl])).1).pure (or_pu h2 h3) (fun _ => none)
          have r2' := r2.pure (keyD_pu h1) (fun _ => none)
          have hobj : RepObj G w id (some (.mp (.map es))) := by
            have := hN (.obj id) (by simp)
            simpa only [RepL, hob] using this
          generalize hvm : a.eval m = vm at *
          generalize hvk : a.eval i = vk at *
          generalize hvx : a.eval x = vx at *
          cases r1 with
          | mapv _ _ g hι =>
          have hobj' := hobj
          obtain ⟨g', i1, i2, i3, arr, clock, m1, m2, m3⟩ := hobj'
          rw [hι] at i1
          injection i1 with i1
          subst i1
          obtain ⟨Same, srch, hKr, hS⟩ := key_law (hT _ _ hki) h1 r2
          obtain ⟨arr', clock', hrun, hat⟩ : ∃ arr' clock', (Instr.mapUpdate ty (.map (some g)) vk vx).run P w = .ok () { w with heap := w.heap.setIfInBounds g (.map arr' clock') } ∧
              (∀ w' : World, (∀ b o, G.F b o → w'.cell? ⟨b, o, none⟩ = w.cell? ⟨b, o, none⟩) → w'.heap[g]? = some (.map arr' clock') → MapAt G.F w' g es') := by
            rcases ins_map hKr hS es es' arr.toList 0 (by simpa using m2) (fun i e p he hp => m3 i e p (by simpa using he) hp) hes with ⟨k1, rfl⟩ | ⟨j, e, k1, k2, k3, rfl⟩
            · refine ⟨_, _, by simp [Instr.mapUpdate, run_underlying hu, MapKept.run_getObj_map m1, hKr.check, hKr.run _ _ _ k1, MapKept.run_setObj_map _ m1, Result.andThen]; rfl, fun w' hw' hg' => ⟨_, _, hg', by simp [m2], fun n e p he hp => ?_⟩⟩
              rcases Nat.lt_or_ge n arr.size with hn | hn
              · rw [Array.getElem?_push_lt hn, ← Array.getElem?_eq_getElem hn] at he
                rw [List.getElem?_append_left (by omega)] at hp
                obtain ⟨q1, q2⟩ := m3 n e p he hp
                exact ⟨q1.mono (fun _ _ h => h) hw' _ (fun _ _ h => by cases h), q2.mono (fun _ _ h => h) hw' _ (fun _ _ h => by cases h)⟩
              · have hn' : n = arr.size := by
                  have := (Array.getElem?_eq_some_iff.1 he).1
                  simp at this; omega
                subst hn'
                rw [Array.getElem?_push_size] at he
                rw [m2, List.getElem?_append_right (Nat.le_refl _), Nat.sub_self] at hp
                injection he with he
                injection hp with hp
                subst he hp
                exact ⟨r2'.mono (fun _ _ h => h) hw' _ (fun _ _ h => by cases h), r3.mono (fun _ _ h => h) hw' _ (fun _ _ h => by cases h)⟩
            · rw [Nat.zero_add] at k1
              have hj : arr[j]? = some e := by simpa using k2
              refine ⟨_, _, by simp [Instr.mapUpdate, run_underlying hu, MapKept.run_getObj_map m1, hKr.check, hKr.run _ _ _ k1, hj, k3, hKr.stays, MapKept.run_setObj_map _ m1, Result.andThen]; rfl, fun w' hw' hg' => ⟨_, _, hg', by simp [m2], fun n e' p he hp => ?_⟩⟩
              rw [Array.getElem?_modify] at he
              by_cases hjn : j = n
              · subst hjn
                rw [if_pos rfl, hj] at he
                rw [List.getElem?_set_self (by have := (Array.getElem?_eq_some_iff.1 hj).1; omega)] at hp
                injection hp with hp
                simp only [Option.map_some, Option.some.injEq] at he
                subst he hp
                exact ⟨r2'.mono (fun _ _ h => h) hw' _ (fun _ _ h => by cases h), r3.mono (fun _ _ h => h) hw' _ (fun _ _ h => by cases h)⟩
              · rw [if_neg hjn] at he
                rw [List.getElem?_set_ne hjn] at hp
                obtain ⟨q1, q2⟩ := m3 n e' p he hp
                exact ⟨q1.mono (fun _ _ h => h) hw' _ (fun _ _ h => by cases h), q2.mono (fun _ _ h => h) hw' _ (fun _ _ h => by cases h)⟩
          have hset := MapKept.heap_set (w := w) (r := g) (o' := .map arr' clock') m1
          obtain ⟨w1, w2, w3⟩ := write_map (w' := { w with heap := w.heap.setIfInBounds g (.map arr' clock') }) (es' := es') hg hι hobj (by simp) (fun b hb => hset.2 b hb) rfl rfl rfl (fun hcell => hat _ hcell hset.1)
          have hexec : (execOp a.eval o).run P w = .ok .skip { w with heap := w.heap.setIfInBounds g (.map arr' clock') } := by
            rcases ho with ho | ho <;> simp only [execOp, ho, Sem.run_bind, hvm, hvk, hvx, hrun, Result.andThen_ok, Sem.run_pure]
          unfold Oper.wp
          rw [hexec]
          refine hK G _ undef w1 w2 ⟨.any .., trivial⟩ fun l hl => ?_
          simp only [List.mem_singleton] at hl
          subst hl
          simp only [RepH]
          rw [List.getElem?_set_self (List.getElem?_eq_some_iff.1 hob).1]
          exact w3
      · exact h.elim
    · exact h.elim
  · exact h.elim
def lookS (z : AV) (es : List (AV × AV)) (s : Bytes) (r : AV) (f : Bool) : Prop := (f = true ∧ (AV.str s, r) ∈ es) ∨ (f = false ∧ r = z ∧ ∀ v, (AV.str s, v) ∉ es)
theorem lookE_spec {ks : List Nat} {z r : AV} {f : Bool} {s : Bytes} : ∀ {es : List (AV × AV)}, keysB es = true → lookE ks z es (.str s) r f → lookS z es s r f
  | [], _, h => .inr ⟨h.2, h.1, fun v hm => by cases hm⟩
  | p :: es, hk, h => by
    obtain ⟨t, v, rfl, hd, hk'⟩ := keysB_cons hk
    obtain ⟨b, hb, h1, h2⟩ := h
    have hb : b = (s == t) := hb
    cases hbb : (s == t) with
    | true =>
      have hst : s = t := eq_of_beq hbb
      obtain ⟨rfl, rfl⟩ := h1 (hb.trans hbb)
      subst hst
      exact .inl ⟨rfl, List.mem_cons_self ..⟩
    | false =>
      rcases lookE_spec hk' (h2 (hb.trans hbb)) with ⟨e1, e2⟩ | ⟨e1, e2, e3⟩
      · exact .inl ⟨e1, List.mem_cons_of_mem _ e2⟩
      · refine .inr ⟨e1, e2, fun w hm => ?_⟩
        rcases List.mem_cons.1 hm with he | he
        · injection he with he _
          injection he with he
          rw [he] at hbb; simp at hbb
        · exact e3 w he
theorem lookE_of {ks : List Nat} {z r : AV} {f : Bool} {s : Bytes} : ∀ {es : List (AV × AV)}, keysB es = true → lookS z es s r f → lookE ks z es (.str s) r f
  | [], _, h => by
    rcases h with ⟨_, h⟩ | ⟨h1, h2, _⟩
    · cases h
    · exact ⟨h2, h1⟩
  | p :: es, hk, h => by
    obtain ⟨t, v, rfl, hd, hk'⟩ := keysB_cons hk
    refine ⟨(s == t), rfl, fun hb => ?_, fun hb => lookE_of hk' ?_⟩
    · have hst : s = t := eq_of_beq hb
      subst hst
      rcases h with ⟨h1, h2⟩ | ⟨_, _, h3⟩
      · rcases List.mem_cons.1 h2 with he | he
        · injection he with _ he; exact ⟨he, h1⟩
        · have := hd _ _ he; simp at this
      · exact absurd (List.mem_cons_self ..) (h3 v)
    · rcases h with ⟨h1, h2⟩ | ⟨h1, h2, h3⟩
      · rcases List.mem_cons.1 h2 with he | he
        · injection he with he _
          injection he with he
          rw [he] at hb; simp at hb
        · exact .inl ⟨h1, he⟩
      · exact .inr ⟨h1, h2, fun w hm => h3 w (List.mem_cons_of_mem _ hm)⟩
theorem look_perm {ks : List Nat} {z r : AV} {f : Bool} {s : Bytes} {es es' : List (AV × AV)} (hp : es'.Perm es) (hk : keysB es = true) (h : lookE ks z es (.str s) r f) : lookE ks z es' (.str s) r f := by
  refine lookE_of (keysB_perm hp hk) ?_
  rcases lookE_spec hk h with ⟨e1, e2⟩ | ⟨e1, e2, e3⟩
  · exact .inl ⟨e1, hp.mem_iff.2 e2⟩
  · exact .inr ⟨e1, e2, fun v hm => e3 v (hp.mem_iff.1 hm)⟩
def AV.isStr : AV → Bool
  | .str _ => true
  | _ => false
def evLookup (T : Tab) (st : St) (g : Bool) (ty : TypeId) (m i : Operand) (ok : Bool) (k : AV → Option Nat → List Loc → Prop) : Prop :=
  unc g (evV T st 0 m) fun a => unc g (evV T st 0 i) fun ka => match T.at ty, a with
    | some ti, .mapv id => match ti.desc with
      | .map kt et => optE (T.at kt) fun ki => optE (T.at et) fun ei => optE st.H[id]? fun ob => match ob with
        | .mp (.map es) => keyD ki ka = true ∧ ∃ r f, lookE ki.eqk ei.zero es ka r f ∧ k (bif ok then .tup [r, .bool f] else r) none (opN m ++ opN i ++ [.obj id])
        | .mp (.mapP es) => (keyD ki ka = true ∧ keysB es = true ∧ ka.isStr = true) ∧ ∃ r f, lookE ki.eqk ei.zero es ka r f ∧ k (bif ok then .tup [r, .bool f] else r) none (opN m ++ opN i ++ [.obj id])
        | _ => False
      | _ => False
    | _, _ => False
theorem lookup_run {ty kt et : TypeId} {ti ki ei : TI} (hT : TOk P T) {G : Gh} {w : World} {vk : Value} {ka r : AV} {f ok : Bool} {gg : Nat} {es : List (AV × AV)} (hu : ti.desc = .map kt et) (hti : T.at ty = some ti) (hki : T.at kt = some ki) (hei : T.at et = some ei)
    (h1 : keyD ki ka = true) (r2 : Rep G.F w G.ι vk ka) (hm : MapAt G.F w gg es) (hl : lookE ki.eqk ei.zero es ka r f) :
    ∃ v, (Instr.lookup ty (.map (some gg)) vk ok).run P w = .ok (if ok then .tuple #[v, .bool f] else v) w ∧ Rep G.F w G.ι v r := by
  have hu' := (hT _ _ hti).under
  rw [hu] at hu'
  have hfe := hT _ _ hei
  obtain ⟨arr, clock, m1, m2, m3⟩ := hm
  obtain ⟨Same, srch, hKr, hS⟩ := key_law (hT _ _ hki) h1 r2
  rcases find_map hKr hS es arr.toList 0 (by simpa using m2) (fun i e p he hp => m3 i e p (by simpa using he) hp) hl with ⟨rfl, rfl, k1⟩ | ⟨rfl, j, v, k1, k2⟩
  · refine ⟨ei.zv, ?_, repz_ok hfe.zero _ _ _⟩
    simp [Instr.lookup, run_underlying hu', MapKept.run_getObj_map m1, hKr.check, hKr.run _ _ _ k1, hfe.run_zero, Result.andThen]
  · refine ⟨v, ?_, k2.mono (fun _ _ h => h) (fun _ _ _ => rfl) _ fun _ _ h => by cases h⟩
    simp [Instr.lookup, run_underlying hu', MapKept.run_getObj_map m1, hKr.check, hKr.run _ _ _ k1, Result.andThen]
theorem evLookup_ok (hT : TOk P T) {g ok : Bool} {k : AV → Option Nat → List Loc → Prop} {ty : TypeId} {m i : Operand} (hc : constOk T o = true) (ho : o.op = .lookup ty m i ok) (h : evLookup T st g ty m i ok k) : Yld E P st o g k := by
  unfold evLookup at h
  obtain ⟨a', h, ha'⟩ := unc_ok h
  obtain ⟨ka, h, hka⟩ := unc_ok h
  split at h
  · rename_i ti id hti _
    split at h
    · rename_i kt et hd
      obtain ⟨ki, hki, h⟩ := optE_ok h
      obtain ⟨ei, hei, h⟩ := optE_ok h
      obtain ⟨ob, hob, h⟩ := optE_ok h
      have core : ∀ (r : AV) (f : Bool), k (bif ok then .tup [r, .bool f] else r) none (opN m ++ opN i ++ [.obj id]) → keyD ki ka = true →
          (∀ (G : Gh) (w : World) (gg : Nat), RepObj G w id (some ob) → G.ι id = some gg → ∃ es, MapAt G.F w gg es ∧ lookE ki.eqk ei.zero es ka r f) → Yld E P st o g k := fun r f h h1 hob' => by
        refine ⟨_, none, _, h, fun hg => .value fun B G w a hgd hN => ?_⟩
        have r1 := ha' hg _ _ _ _ (evV_ok (T := T) hgd (constOk.at hc (ty := 0) (x := m) (by simp [opcs, ho])) fun l hl => hN l (by simp [hl])).1
        have r2 := hka hg _ _ _ _ (evV_ok (T := T) hgd (constOk.at hc (ty := 0) (x := i) (by simp [opcs, ho])) fun l hl => hN l (by simp [hl])).1
        have hobj : RepObj G w id (some ob) := by
          have := hN (.obj id) (by simp)
          simpa only [RepL, hob] using this
        generalize hvm : a.eval m = vm at *
        generalize hvk : a.eval i = vk at *
        cases r1 with
        | mapv _ _ gg hι =>
        obtain ⟨es, hm, hl⟩ := hob' G w gg hobj hι
        obtain ⟨v, hrun, hrep⟩ := lookup_run (ok := ok) hT hd hti hki hei h1 r2 hm hl
        have hexec : (execOp a.eval o).run P w = .ok (.value (if ok then .tuple #[v, .bool f] else v)) w := by
          simp only [execOp, ho, Sem.run_bind, hvm, hvk, hrun, Result.andThen_ok, Sem.run_pure]
        refine ⟨_, hexec, ?_, trivial⟩
        cases ok with
        | false => exact hrep
        | true =>
          refine .tup _ [v, .bool f] [r, .bool f] rfl fun i u c hu hcc => ?_
          match i, hu, hcc with
          | 0, hu, hcc => injection hu with hu; injection hcc with hcc; subst hu hcc; exact hrep
          | 1, hu, hcc => injection hu with hu; injection hcc with hcc; subst hu hcc; exact .bool ..
      split at h
      · rename_i es
        obtain ⟨h1, r, f, hl, h⟩ := h
        refine core r f h h1 fun G w gg hobj hι => ?_
        obtain ⟨g', i1, i2, i3, hm⟩ := hobj
        rw [hι] at i1
        injection i1 with i1
        subst i1
        exact ⟨es, hm, hl⟩
      · rename_i es
        obtain ⟨⟨h1, hkb, hst⟩, r, f, hl, h⟩ := h
        refine core r f h h1 fun G w gg hobj hι => ?_
        obtain ⟨g', i1, i2, i3, es', hp, hm⟩ := hobj
        rw [hι] at i1
        injection i1 with i1
        subst i1
        refine ⟨es', hm, ?_⟩
        cases ka with
        | str s => exact look_perm hp hkb hl
        | _ => cases hst
      · exact h.elim
    · exact h.elim
  · exact h.elim
end
section
variable {E : Env} {P : Program} {T : Tab} {st : St} {o : Oper}
def evLenM (T : Tab) (st : St) (g : Bool) (ty : TypeId) (x : Operand) (k : AV → Option Nat → List Loc → Prop) : Prop :=
  unc g (evV T st ty x) fun a => match T.at ty, a with
    | some ti, .mapv id => match ti.desc with
      | .map _ _ => optE st.H[id]? fun ob => match ob with
        | .mp (.map es) => ∃ n : Nat, (es.length = n ∧ n ≤ maxLen) ∧ k (.int .i64 (n : Int)) none (opN x ++ [.obj id])
        | _ => False
      | _ => False
    | _, _ => False
theorem evLenM_ok (hT : TOk P T) {g : Bool} {k : AV → Option Nat → List Loc → Prop} {ty : TypeId} {x : Operand} (hc : constOk T o = true) (ho : o.op = .call { callee := .builtin .len, args := #[x], argTypes := #[ty] }) (h : evLenM T st g ty x k) : Yld E P st o g k := by
  unfold evLenM at h
  obtain ⟨a', h, ha'⟩ := unc_ok h
  split at h
  · rename_i ti id hti
    have hu := (hT _ _ hti).under
    split at h
    · rename_i kt et hd
      rw [hd] at hu
      obtain ⟨ob, hob, h⟩ := optE_ok h
      split at h
      · rename_i es
        obtain ⟨n, ⟨h1, h2⟩, h⟩ := h
        refine ⟨_, none, _, h, fun hg => .value fun B G w a hgd hN => ?_⟩
        have r1 := ha' hg _ _ _ _ (evV_ok (T := T) hgd (constOk.at hc (ty := ty) (x := x) (by simp [opcs, ho])) fun l hl => hN l (by simp [hl])).1
        have hobj : RepObj G w id (some (.mp (.map es))) := by
          have := hN (.obj id) (by simp)
          simpa only [RepL, hob] using this
        rw [run_builtin ho]
        have he : (#[x] : Array Operand).map a.eval = #[a.eval x] := by simp
        rw [he]
        generalize hvm : a.eval x = vm at *
        cases r1 with
        | mapv _ _ gg hι =>
        obtain ⟨g', i1, i2, i3, arr, clock, m1, m2, m3⟩ := hobj
        rw [hι] at i1
        injection i1 with i1
        subst i1
        refine ⟨.int .i64 (n : Int), ?_, .int _ _ _ (i64_len h2), trivial⟩
        simp [builtin, Builtin.len_, run_underlying hu, MapKept.run_getObj_map m1, goInt, m2, h1, i64_len h2]
      · exact h.elim
    · exact h.elim
  · exact h.elim
end
/-! ### Texts, rune by rune -/
def runeAt (s : Bytes) (pos : Nat) : Nat := (Utf8.decode ⟨s.toArray⟩ pos).1
def widthAt (s : Bytes) (pos : Nat) : Nat := (Utf8.decode ⟨s.toArray⟩ pos).2
section
variable {E : Env} {B : Base} {G : Gh} {w w' : World}
theorem new_sp (h : Good E B G w) {id : Nat} (hid : G.ι id = none) {o : Obj} (hw : Grown1 w w' o) {x : SObj} (hx0 : ∀ F O i, SpAt F O i w' w.heap.size x) :
    let G1 : Gh := { G with ι := setI G.ι id w.heap.size, O := setI G.O w.heap.size (.inl id) }
    Good E B G1 w' ∧ FrH G w G1 w' [.obj id] ∧ RepObj G1 w' id (some (.mp x)) ∧ G1.ι id = some w.heap.size := by
  intro G1
  have hne : ∀ b i, G.O b = some i → b ≠ w.heap.size := fun b i hi => Nat.ne_of_lt (h.own b i hi).1
  have hx : Ext G w G1 w' := ⟨fun _ _ x => x, fun i g hi => by
    have : i ≠ id := fun e => by rw [e, hid] at hi; cases hi
    show setI G.ι id w.heap.size i = some g
    rw [setI_other _ _ this]; exact hi, fun _ _ x => x, fun b o hb => cell_congr (hw.old b (h.fin b o hb)), grows_old hw.old⟩
  refine ⟨h.step (by rw [hw.size]; omega) (fun b hb _ => hw.old b hb) (fun b o hb => hx.w b o hb) (fun _ _ x => x) (fun b o hb => ⟨by rw [hw.size]; have := h.fin b o hb; omega, .inl hb⟩) (fun b i hi => ?_) hw.os hw.tape hw.output hx, ⟨hx, fun i c hi hc => ?_, fun i c _ hc => ?_⟩, ?_, setI_same ..⟩
  · by_cases hb : b = w.heap.size
    · subst hb; exact ⟨by rw [hw.size]; omega, .inl (Nat.le_refl _)⟩
    · have hi' : G.O b = some i := by rw [← hi]; exact (setI_other _ _ hb).symm
      exact ⟨by rw [hw.size]; have := (h.own b i hi').1; omega, .inr (by rw [hi']; simp)⟩
  · have hne' : i ≠ id := fun e => hi (by simp [e])
    refine hc.keep hx (fun hn => by show setI _ _ _ i = none; rw [setI_other _ _ hne']; exact hn) fun g hg => ⟨?_, hw.old g (h.own g _ hg).1, fun _ x => x⟩
    show setI _ _ _ g = _
    rw [setI_other _ _ (hne g _ hg)]; exact hg
  · refine hc.keep hx (fun x => x) fun g hg => ⟨?_, hw.old g (h.own g _ hg).1, fun _ x => x⟩
    show setI _ _ _ g = _
    rw [setI_other _ _ (hne g _ hg)]; exact hg
  · exact ⟨w.heap.size, setI_same .., setI_same .., fun x hx' => absurd (h.fin _ _ hx') (Nat.lt_irrefl _), hx0 _ _ _⟩
theorem write_sp (h : Good E B G w) {id g : Nat} (hid : G.ι id = some g) {x x' : SObj} (hobj : RepObj G w id (some (.mp x))) (hsz : w'.heap.size = w.heap.size) (hold : ∀ b, b ≠ g → w'.heap[b]? = w.heap[b]?)
    (hos : w'.os = w.os) (htape : w'.tape = w.tape) (hout : w'.output = w.output) (hm : SpAt G.F G.O id w' g x') (hgr : ∀ g, Grows w w' g) :
    Good E B G w' ∧ FrH G w G w' [.obj id] ∧ RepObj G w' id (some (.mp x')) := by
  obtain ⟨g', i1, i2, i3, i4⟩ := hobj
  rw [hid] at i1
  injection i1 with i1
  subst i1
  have hcell : ∀ b o, G.F b o → w'.cell? ⟨b, o, none⟩ = w.cell? ⟨b, o, none⟩ := fun b o hb => cell_congr (hold b (fun e => i3 o (e ▸ hb)))
  have hx : Ext G w G w' := ⟨fun _ _ x => x, fun _ _ x => x, fun _ _ x => x, hcell, hgr⟩
  refine ⟨h.step (by rw [hsz]; exact Nat.le_refl _) (fun b _ hn => hold b (fun e => by rw [e, i2] at hn; cases hn)) hcell (fun _ _ x => x) (fun b o hb => ⟨by rw [hsz]; exact h.fin b o hb, .inl hb⟩) (fun b i hi => ⟨by rw [hsz]; exact (h.own b i hi).1, .inr (by rw [hi]; simp)⟩) hos htape hout hx, ⟨hx, fun i c hi hc => ?_, fun i c _ hc => ?_⟩, ⟨g, hid, i2, i3, hm⟩⟩
  · refine hc.keep hx (fun x => x) fun g2 hg2 => ⟨hg2, hold g2 (fun e => ?_), fun _ x => x⟩
    rw [e, i2] at hg2
    injection hg2 with hg2
    injection hg2 with hg2
    exact hi (by simp [hg2])
  · refine hc.keep hx (fun x => x) fun g2 hg2 => ⟨hg2, hold g2 (fun e => ?_), fun _ x => x⟩
    rw [e, i2] at hg2
    injection hg2 with hg2
    cases hg2
end
section
variable {E : Env} {P : Program} {T : Tab} {st : St} {o : Oper}
def evRange (T : Tab) (st : St) (ty : TypeId) (x : Operand) (k : KH) : Prop :=
  unc true (evV T st ty x) fun a => match T.at ty, a with
    | some ti, .str s => match ti.desc with
      | .string => k (.ptr st.H.length 0) none (st.H ++ [.mp (.iter s 0)]) st.k (opN x ++ [.obj st.H.length]) [.obj st.H.length]
      | _ => False
    | _, _ => False
theorem evRange_ok (hT : TOk P T) {k : KH} {ty : TypeId} {x : Operand} (hc : constOk T o = true) (ho : o.op = .range ty x) (h : evRange T st ty x k) : YldH E P st o k := by
  unfold evRange at h
  obtain ⟨a', h, ha'⟩ := unc_ok h
  split at h
  · rename_i ti s hti
    have hu := (hT _ _ hti).under
    split at h
    · rename_i hd
      rw [hd] at hu
      refine ⟨_, _, _, _, _, _, h, ⟨by simp, fun l hl => ?_, fun B G w a hg hN K Q hK => ?_⟩⟩
      · cases l with
        | slot => trivial
        | obj i => exact app_same _ _ (fun e => hl (by simp [e]))
        | tok i => rfl
      · have r1 := ha' rfl _ _ _ _ (evV_ok (T := T) hg (constOk.at hc (ty := ty) (x := x) (by simp [opcs, ho])) fun l hl => hN l (by simp [hl])).1
        have hid : G.ι st.H.length = none := by
          have := hN (.obj st.H.length) (by simp)
          simp only [RepL] at this
          rw [List.getElem?_eq_none (Nat.le_refl _)] at this
          exact this
        generalize hv : a.eval x = vx at *
        cases r1 with
        | str _ _ hs =>
        have hgr := grown1_alloc w (.stringIter ⟨s.toArray⟩ 0)
        obtain ⟨g1, g2, g3, g4⟩ := new_sp (x := .iter s 0) hg hid hgr (fun F O i => ⟨hs, hgr.new⟩)
        have hrun : (execOp a.eval o).run P w = .ok (.value (.pointer (some ⟨w.heap.size, 0, none⟩))) (w.alloc (.stringIter ⟨s.toArray⟩ 0)) := by
          simp [execOp, ho, hv, Instr.range, run_underlying hu, Result.andThen]
        unfold Oper.wp
        rw [hrun]
        refine hK _ _ _ g1 g2 ⟨.ptr _ _ _ _ g4, trivial⟩ fun l hl => ?_
        simp only [List.mem_singleton] at hl
        subst hl
        simp only [RepH]
        rw [List.getElem?_append_right (Nat.le_refl _), Nat.sub_self]
        exact g3
    · exact h.elim
  · exact h.elim
def evAllocB (T : Tab) (st : St) (ty : TypeId) (k : KH) : Prop :=
  match T.at ty with
  | none => False
  | some ti => ∃ e, ti.zv = .agg #[.pointer none, .slice none 0 0] ∧ k (.ptr st.H.length 0) none (st.H ++ [.mp (.bld ty e [])]) st.k [.obj st.H.length] [.obj st.H.length]
theorem evAllocB_ok (hT : TOk P T) {k : KH} {ty : TypeId} (ho : o.op = .alloc ty) (h : evAllocB T st ty k) : YldH E P st o k := by
  unfold evAllocB at h
  split at h
  · exact h.elim
  · rename_i ti hti
    have hf := hT _ _ hti
    obtain ⟨e, hz, h⟩ := h
    refine ⟨_, _, _, _, _, _, h, ⟨by simp, fun l hl => ?_, fun B G w a hg hN K Q hK => ?_⟩⟩
    · cases l with
      | slot => trivial
      | obj i => exact app_same _ _ (fun e => hl (by simp [e]))
      | tok i => rfl
    · have hid : G.ι st.H.length = none := by
        have := hN (.obj st.H.length) (by simp)
        simp only [RepL] at this
        rw [List.getElem?_eq_none (Nat.le_refl _)] at this
        exact this
      have hgr := grown1_alloc w (.cells #[.pointer none, .slice none 0 0] ty)
      obtain ⟨g1, g2, g3, g4⟩ := new_sp (x := .bld ty e []) hg hid hgr (fun F O i => ⟨.slice none 0 0, ⟨_, hgr.new, .inl rfl⟩, World.ownsRow_nil _ _ _ _, fun k hk => by cases hk⟩)
      have hrun : (execOp a.eval o).run P w = .ok (.value (.pointer (some ⟨w.heap.size, 0, none⟩))) (w.alloc (.cells #[.pointer none, .slice none 0 0] ty)) := by
        simp [execOp, ho, Instr.alloc, hf.run_zero, newVar, newRow, hz, Value.cells]
      unfold Oper.wp
      rw [hrun]
      refine hK _ _ _ g1 g2 ⟨.ptr _ _ _ _ g4, trivial⟩ fun l hl => ?_
      simp only [List.mem_singleton] at hl
      subst hl
      simp only [RepH]
      rw [List.getElem?_append_right (Nat.le_refl _), Nat.sub_self]
      exact g3
def evNext (T : Tab) (st : St) (x : Operand) (k : KH) : Prop :=
  unc true (evV T st 0 x) fun a => match a with
    | .ptr id 0 => optE st.H[id]? fun ob => match ob with
      | .mp (.iter s pos) => (decide (pos < s.length) = true → k (.tup [.bool true, .int .i64 (pos : Int), .int .i32 (runeAt s pos : Int)]) none (st.H.set id (.mp (.iter s (pos + widthAt s pos)))) st.k (opN x ++ [.obj id]) [.obj id]) ∧
          (decide (pos < s.length) = false → k (.tup [.bool false]) none st.H st.k (opN x ++ [.obj id]) [])
      | _ => False
    | _ => False
theorem evNext_ok {k : KH} {ty : TypeId} {x : Operand} (hc : constOk T o = true) (ho : o.op = .next x true) (h : evNext T st x k) : YldH E P st o k := by
  unfold evNext at h
  obtain ⟨a', h, ha'⟩ := unc_ok h
  split at h
  · rename_i id
    obtain ⟨ob, hob, h⟩ := optE_ok h
    split at h
    · rename_i s pos
      have key : ∀ (B : Base) (G : Gh) (w : World) (a : Act), Good E B G w → (∀ l, l ∈ opN x ++ [.obj id] → RepL G w a l st) → ∃ g, a.eval x = .pointer (some ⟨g, 0, none⟩) ∧ G.ι id = some g ∧ RepObj G w id (some (.mp (.iter s pos))) ∧ s.length ≤ maxLen ∧ w.heap[g]? = some (.stringIter ⟨s.toArray⟩ pos) := by
        intro B G w a hg hN
        have r1 := ha' rfl _ _ _ _ (evV_ok (T := T) hg (constOk.at hc (ty := 0) (x := x) (by simp [opcs, ho])) fun l hl => hN l (by simp [hl])).1
        have hobj : RepObj G w id (some (.mp (.iter s pos))) := by
          have := hN (.obj id) (by simp)
          simpa only [RepL, hob] using this
        generalize hv : a.eval x = vx at *
        cases r1 with
        | ptr _ _ _ g hι =>
        have hobj' := hobj
        obtain ⟨g', i1, i2, i3, m1, m2⟩ := hobj'
        rw [hι] at i1
        injection i1 with i1
        subst i1
        exact ⟨g, rfl, hι, hobj, m1, m2⟩
      have hz : (⟨s.toArray⟩ : ByteArray).size = s.length := by simp [ByteArray.size]
      cases hb : decide (pos < s.length) with
      | true =>
        have hlt := of_decide_eq_true hb
        refine ⟨_, _, _, _, _, _, h.1 hb, ⟨by simp, fun l hl => ?_, fun B G w a hg hN K Q hK => ?_⟩⟩
        · cases l with
          | slot => trivial
          | obj i => exact set_same _ _ _ _ (fun e => hl (by simp [e]))
          | tok i => rfl
        · obtain ⟨g, hv, hι, hobj, m1, m2⟩ := key B G w a hg hN
          have hnx := Go.Lib.run_next_any_at (P := P) w g ⟨s.toArray⟩ pos o.type m2 (by rw [hz]; exact hlt)
          have hset := MapKept.heap_set (w := w) (r := g) (o' := .stringIter ⟨s.toArray⟩ (pos + widthAt s pos)) m2
          have hrun : (execOp a.eval o).run P w = .ok (.value (.tuple #[.bool true, .int .i64 pos, .int .i32 (runeAt s pos)])) { w with heap := w.heap.setIfInBounds g (.stringIter ⟨s.toArray⟩ (pos + widthAt s pos)) } := by
            simp only [execOp, ho, hv, Sem.run_bind, hnx, Result.andThen_ok, Sem.run_pure]
            rfl
          obtain ⟨w1, w2, w3⟩ := write_sp (w' := { w with heap := w.heap.setIfInBounds g (.stringIter ⟨s.toArray⟩ (pos + widthAt s pos)) }) (x' := .iter s (pos + widthAt s pos)) hg hι hobj (by simp) (fun b hb => hset.2 b hb) rfl rfl rfl ⟨m1, hset.1⟩ (grows_no (fun b hb => hset.2 b hb) fun vals t fz e => by rw [m2] at e; cases e)
          unfold Oper.wp
          rw [hrun]
          have hrune : IntKind.i32.wrap (runeAt s pos : Int) = (runeAt s pos : Int) := by
            have := decode_le ⟨s.toArray⟩ pos
            have h2 : runeAt s pos ≤ 2147483647 := this
            exact IntWalk.i32_in _ (by omega)
          refine hK _ _ _ w1 w2 ⟨.tup _ [.bool true, .int .i64 pos, .int .i32 (runeAt s pos)] _ rfl fun i u c hu hcc => ?_, trivial⟩ fun l hl => ?_
          · match i, hu, hcc with
            | 0, hu, hcc => injection hu with hu; injection hcc with hcc; subst hu hcc; exact .bool ..
            | 1, hu, hcc => injection hu with hu; injection hcc with hcc; subst hu hcc; exact .int _ _ _ (i64_len (by omega))
            | 2, hu, hcc => injection hu with hu; injection hcc with hcc; subst hu hcc; exact .int _ _ _ hrune
          · simp only [List.mem_singleton] at hl
            subst hl
            simp only [RepH]
            rw [List.getElem?_set_self (List.getElem?_eq_some_iff.1 hob).1]
            exact w3
      | false =>
        have hlt := of_decide_eq_false hb
        refine ⟨_, _, _, _, _, _, h.2 hb, .value fun B G w a hg hN => ?_⟩
        obtain ⟨g, hv, hι, hobj, m1, m2⟩ := key B G w a hg hN
        have hnx := Go.Lib.run_next_end_at (P := P) w g ⟨s.toArray⟩ pos o.type m2 (by rw [hz]; exact hlt)
        refine ⟨.tuple #[.bool false], by simp only [execOp, ho, hv, Sem.run_bind, hnx, Result.andThen_ok, Sem.run_pure], .tup _ [.bool false] _ rfl fun i u c hu hcc => ?_, trivial⟩
        match i, hu, hcc with
        | 0, hu, hcc => injection hu with hu; injection hcc with hcc; subst hu hcc; exact .bool ..
    · exact h.elim
  · exact h.elim
end
section
variable {E : Env} {P : Program} {T : Tab} {st : St} {o : Oper}
def isIntT (T : Tab) (t : TypeId) : Bool := match T.at t with | some ti => (match ti.desc with | .int _ => true | _ => false) | none => false
def encB (n : Int) : Bytes := (Utf8.encode n).data.toList
theorem encB_len (n : Int) : (encB n).length ≤ 4 := by
  unfold encB Utf8.encode
  dsimp only
  repeat' split
  all_goals simp
def evRune (T : Tab) (st : St) (g : Bool) (src dst : TypeId) (x : Operand) (k : AV → Option Nat → List Loc → Prop) : Prop :=
  unc g (evV T st src x) fun a => match T.at src, T.at dst, a with
    | some _, some di, .int _ n => match di.desc with
      | .string => k (.str (encB n)) none (opN x)
      | _ => False
    | _, _, _ => False
theorem evRune_ok (hT : TOk P T) {g : Bool} {k : AV → Option Nat → List Loc → Prop} {src dst : TypeId} {x : Operand} (hc : constOk T o = true) (ho : o.op = .convert src dst x) (h : evRune T st g src dst x k) : Yld E P st o g k := by
  unfold evRune at h
  obtain ⟨a', h, ha'⟩ := unc_ok h
  split at h
  · rename_i si di kd n hsi hdi
    split at h
    · rename_i hd
      have hu := (hT _ _ hdi).under
      rw [hd] at hu
      have hus := (hT _ _ hsi).under
      refine ⟨_, none, _, h, fun hg => .value fun B G w a hgd hN => ?_⟩
      have r1 := ha' hg _ _ _ _ (evV_ok (T := T) hgd (constOk.at hc (ty := src) (x := x) (by simp [opcs, ho])) hN).1
      generalize hv : a.eval x = vx at *
      cases r1
      refine ⟨.string (Utf8.encode n), ?_, ?_, trivial⟩
      · have := run_convert_int_string (P := P) w src dst kd n (by rw [hus]; rfl) hu
        simp only [execOp, ho, hv, Sem.run_bind, this, Result.andThen_ok, Sem.run_pure]
      · have h4 := encB_len n
        have h3 := Rep.str (F := G.F) (w := w) G.ι (encB n) (by unfold maxLen; omega)
        have e : (⟨(encB n).toArray⟩ : ByteArray) = Utf8.encode n := by unfold encB; simp
        rw [e] at h3
        exact h3
    · exact h.elim
  · exact h.elim
end
def mins {κ ν : Type} [BEq κ] : List (κ × ν) → κ → ν → List (κ × ν)
  | [], k, v => [(k, v)]
  | p :: l, k, v => bif k == p.1 then (p.1, v) :: l else p :: mins l k v
def menc {κ ν : Type} (ek : κ → AV) (ev : ν → AV) (l : List (κ × ν)) : List (AV × AV) := l.map fun p => (ek p.1, ev p.2)
theorem ins_typed {κ ν : Type} [BEq κ] (ks : List Nat) (ek : κ → AV) (ev : ν → AV) (hk : ∀ a b, keyB ks (ek a) (ek b) (a == b)) (k : κ) (v : ν) : ∀ (l : List (κ × ν)), insE ks (menc ek ev l) (ek k) (ev v) (menc ek ev (mins l k v))
  | [] => rfl
  | p :: l => by
    refine ⟨k == p.1, hk _ _, fun h => ?_, fun h => ⟨_, ins_typed ks ek ev hk k v l, ?_⟩⟩
    · unfold mins; rw [h]; rfl
    · conv => lhs; unfold mins
      rw [h]; rfl
theorem keyB_int (K : IntKind) (a b : Int) : keyB [] (.int K a) (.int K b) (a == b) := ⟨rfl, rfl⟩
theorem menc_len {κ ν : Type} (ek : κ → AV) (ev : ν → AV) (l : List (κ × ν)) : (menc ek ev l).length = l.length := by unfold menc; rw [List.length_map]
end Go.Pm
