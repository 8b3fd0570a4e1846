/-
  Generic: places (slices of slices, fields, elements), loads, and other operations that only yield a value.
-/
import Derived.Test.YtommkfooolabhaaGreatDoorPm6
namespace Go.Pm
open Go Go.RowKit
set_option linter.unusedVariables false
set_option linter.unusedSimpArgs false
section
variable {E : Env} {P : Program} {T : Tab} {st : St} {o : Oper} {g : Bool} {k : AV → Option Nat → List Loc → Prop}
def bndE (T : Tab) (st : St) (g : Bool) (x : Option Operand) (none_ : Int) (k : Int → Prop) : Prop :=
  match x with
  | none => k none_
  | some x => unc g (evV T st 0 x) fun a => match a with
    | .int _ n => k n
    | _ => False
def bndN : Option Operand → List Loc
  | none => []
  | some x => opN x
theorem bndE_ok {x : Option Operand} {d : Int} {k : Int → Prop} (h : bndE T st g x d k) : ∃ n, k n ∧ (g = true → ∀ (B : Base) (G : Gh) (w : World) (a : Act), Good E B G w → (∀ l, l ∈ bndN x → RepL G w a l st) → (∀ y, x = some y → cOk T 0 y = true) →
    (x = none ∧ n = d) ∨ ∃ y kd, x = some y ∧ a.eval y = .int kd n) := by
  unfold bndE at h
  split at h
  · exact ⟨d, h, fun _ B G w a _ _ _ => .inl ⟨rfl, rfl⟩⟩
  · rename_i x
    obtain ⟨a', h, ha'⟩ := unc_ok h
    split at h
    · rename_i kd n
      refine ⟨n, h, fun hg B G w a hgd hN hc => .inr ⟨x, kd, rfl, ?_⟩⟩
      have h1 := ha' hg _ _ _ _ (evV_ok (T := T) (ty := 0) hgd (hc x rfl) hN).1
      generalize a.eval x = v at *
      cases h1; rfl
    · exact h.elim
def evSlice (T : Tab) (st : St) (g : Bool) (ty : TypeId) (x : Operand) (lo hi : Option Operand) (k : AV → Option Nat → List Loc → Prop) : Prop :=
  unc g (evV T st ty x) fun a => match T.at ty with
    | none => False
    | some ti => match ti.desc, a with
      | .string, .str s => bndE T st g lo 0 fun l => bndE T st g hi (s.length : Int) fun h => (g = true → 0 ≤ l ∧ l ≤ h ∧ h ≤ (s.length : Int)) ∧
          k (.str ((s.drop l.toNat).take (h.toNat - l.toNat))) none (opN x ++ (bndN lo ++ bndN hi))
      | .slice _, .list sz xs => bndE T st g lo 0 fun l => bndE T st g hi (xs.length : Int) fun h => ((g = true → 0 ≤ l ∧ l ≤ h ∧ h ≤ (xs.length : Int)) ∧ sz = ti.esz) ∧
          k (.list sz ((xs.drop l.toNat).take (h.toNat - l.toNat))) none (opN x ++ (bndN lo ++ bndN hi))
      | .slice _, .row id off len sz => bndE T st g lo 0 fun l => bndE T st g hi (len : Int) fun h => (g = true → 0 ≤ l ∧ l ≤ h ∧ h ≤ (len : Int)) ∧
          k (.row id (off + l.toNat * ti.esz) (h.toNat - l.toNat) (bif Nat.beq sz ti.esz then sz else 0)) none (opN x ++ (bndN lo ++ bndN hi))
      | .array n _, .ptr id off => bndE T st g lo 0 fun l => bndE T st g hi (n : Int) fun h => ((g = true → 0 ≤ l ∧ l < h ∧ h ≤ (n : Int)) ∧ n ≤ 65536) ∧
          k (.row id (off + l.toNat * ti.esz) (h.toNat - l.toNat) 0) none (opN x ++ (bndN lo ++ bndN hi))
      | _, _ => False
theorem room_sub {w : World} {g off cap l sz esz : Nat} (h : 0 < sz → RoomIn w g (off + cap * sz)) (hl : l ≤ cap) : 0 < (bif Nat.beq sz esz then sz else 0) → RoomIn w g (off + l * esz + (cap - l) * (bif Nat.beq sz esz then sz else 0)) := by
  cases he : Nat.beq sz esz with
  | false => exact fun h => absurd h (Nat.lt_irrefl _)
  | true =>
    have := Nat.eq_of_beq_eq_true he
    subst this
    intro hs
    have e : off + l * sz + (cap - l) * sz = off + cap * sz := by rw [Nat.add_assoc, ← Nat.add_mul, Nat.add_sub_cancel' hl]
    rw [cond_true, e]
    exact h hs
theorem run_bounds (w : World) (isS : Bool) (len cap : Nat) (vl vh : Option Value) (l h : Int) (hl : (vl = none ∧ l = 0) ∨ ∃ k, vl = some (.int k l)) (hh : (vh = none ∧ h = len) ∨ ∃ k, vh = some (.int k h))
    (h0 : 0 ≤ l) (h1 : l ≤ h) (h2 : h ≤ cap) : (Instr.sliceBounds isS len cap vl vh none).run P w = .ok (l.toNat, h.toNat, cap) w := by
  have eh : (h.toNat : Int) = h := Int.toNat_of_nonneg (by omega)
  rcases hl with ⟨rfl, rfl⟩ | ⟨kl, rfl⟩ <;> rcases hh with ⟨rfl, rfl⟩ | ⟨kh, rfl⟩
  · simp [Instr.sliceBounds]
  · simp [Instr.sliceBounds, run_sliceBound, show (0 : Int) ≤ h by omega, h2]
  · simp [Instr.sliceBounds, run_sliceBound, h0, h1]
  · simp [Instr.sliceBounds, run_sliceBound, show (0 : Int) ≤ h by omega, h2, h0, h1, eh]
theorem evSlice_ok (hT : TOk P T) {ty : TypeId} {x : Operand} {lo hi : Option Operand} (hc : constOk T o = true) (ho : o.op = .slice ty x lo hi none) (h : evSlice T st g ty x lo hi k) : Yld E P st o g k := by
  unfold evSlice at h
  obtain ⟨a', h, ha'⟩ := unc_ok h
  split at h
  · exact h.elim
  · rename_i ti hti
    have hf := hT _ _ hti
    have hu := hf.under
    have hcl : ∀ y, lo = some y → cOk T 0 y = true := fun y hy => constOk.at hc (by simp [opcs, ho, hy])
    have hch : ∀ y, hi = some y → cOk T 0 y = true := fun y hy => constOk.at hc (by simp [opcs, ho, hy])
    have hexec : ∀ (a : Act) (w : World) (v : Value), (Instr.sliceAt ty (a.eval x) (lo.map a.eval) (hi.map a.eval) none).run P w = .ok v w → (execOp a.eval o).run P w = .ok (.value v) w := by
      intro a w v hv
      simp only [execOp, ho, Sem.run_bind, Option.map_none, hv, Result.andThen_ok, Sem.run_pure]
    have key : ∀ (B : Base) (G : Gh) (w : World) (a : Act), Good E B G w → (∀ l, l ∈ opN x ++ (bndN lo ++ bndN hi) → RepL G w a l st) → g = true → Rep G.F w G.ι (a.eval x) a' := fun B G w a hgd hN hg =>
      ha' hg _ _ _ _ (evV_ok (T := T) hgd (constOk.at hc (ty := ty) (x := x) (by simp [opcs, ho])) fun l hl => hN l (List.mem_append_left _ hl)).1
    have bnds : ∀ {l h d : Int}, (g = true → ∀ (B : Base) (G : Gh) (w : World) (a : Act), Good E B G w → (∀ l, l ∈ bndN lo → RepL G w a l st) → (∀ y, lo = some y → cOk T 0 y = true) → (lo = none ∧ l = 0) ∨ ∃ y kd, lo = some y ∧ a.eval y = .int kd l) →
        (g = true → ∀ (B : Base) (G : Gh) (w : World) (a : Act), Good E B G w → (∀ l, l ∈ bndN hi → RepL G w a l st) → (∀ y, hi = some y → cOk T 0 y = true) → (hi = none ∧ h = d) ∨ ∃ y kd, hi = some y ∧ a.eval y = .int kd h) →
        ∀ (B : Base) (G : Gh) (w : World) (a : Act), Good E B G w → (∀ l, l ∈ opN x ++ (bndN lo ++ bndN hi) → RepL G w a l st) → g = true →
          ((lo.map a.eval = none ∧ l = 0) ∨ ∃ k, lo.map a.eval = some (.int k l)) ∧ ((hi.map a.eval = none ∧ h = d) ∨ ∃ k, hi.map a.eval = some (.int k h)) := by
      intro l h d h1 h2 B G w a hgd hN hg
      refine ⟨?_, ?_⟩
      · rcases h1 hg B G w a hgd (fun l hl => hN l (by simp [hl])) hcl with ⟨e, e'⟩ | ⟨y, kd, e, e'⟩
        · exact .inl ⟨by simp [e], e'⟩
        · exact .inr ⟨kd, by simp [e, e']⟩
      · rcases h2 hg B G w a hgd (fun l hl => hN l (by simp [hl])) hch with ⟨e, e'⟩ | ⟨y, kd, e, e'⟩
        · exact .inl ⟨by simp [e], e'⟩
        · exact .inr ⟨kd, by simp [e, e']⟩
    split at h
    · rename_i s hd
      rw [hd] at hu
      obtain ⟨l, h, hl⟩ := bndE_ok (E := E) h
      obtain ⟨hh, h, hh'⟩ := bndE_ok (E := E) h
      obtain ⟨hcnd, h⟩ := h
      refine ⟨_, none, _, h, fun hg => .value fun B G w a hgd hN => ?_⟩
      obtain ⟨h0, h1, h2⟩ := hcnd hg
      have hr := key B G w a hgd hN hg
      obtain ⟨b1, b2⟩ := bnds hl hh' B G w a hgd hN hg
      have he := hexec a w
      generalize a.eval x = vx at *
      cases hr with
      | str _ _ hsl =>
      refine ⟨_, he _ ?_, .str _ _ ?_, trivial⟩
      · rw [run_sliceAt_string w ty _ _ _ _ hu]
        have hz : (⟨s.toArray⟩ : ByteArray).size = s.length := by simp [ByteArray.size]
        simp only [Instr.slice, Sem.run_bind, run_underlying hu, Result.andThen_ok, Option.isSome_none, Bool.false_eq_true, if_false, hz]
        rw [run_bounds w false s.length s.length _ _ l hh b1 b2 h0 h1 (by omega)]
        simp only [Result.andThen_ok, Sem.run_pure, ByteArray.extract_mk]
      · simp; omega
    · rename_i e sz xs hd
      rw [hd] at hu
      have hu' : P.underlying ty = some (.slice (P.elem ty)) := by simp [Program.elem, hu]
      have hel : P.elem ty = e := by simp [Program.elem, hu]
      have hes := fun w => hf.run_esz w (.inl hd)
      obtain ⟨l, h, hl⟩ := bndE_ok (E := E) h
      obtain ⟨hh, h, hh'⟩ := bndE_ok (E := E) h
      obtain ⟨⟨hcnd, hsz'⟩, h⟩ := h
      refine ⟨_, none, _, h, fun hg => .value fun B G w a hgd hN => ?_⟩
      obtain ⟨h0, h1, h2⟩ := hcnd hg
      have hr := key B G w a hgd hN hg
      obtain ⟨b1, b2⟩ := bnds hl hh' B G w a hgd hN hg
      have he := hexec a w
      obtain ⟨ad, n, cap, hv, hn, hc', hm, hsz, hrow⟩ := hr.list_inv
      rw [hv] at he
      rw [← hn] at b2
      refine ⟨_, he (.slice (if cap = l.toNat then ad else ad.map (·.add (l.toNat * sz))) (hh.toNat - l.toNat) (cap - l.toNat)) ?_, ?_, trivial⟩
      · rw [run_sliceAt_slice w ty _ _ _ _ hu', run_slice_any w ty ad n cap hu', run_bounds w true n cap _ _ l hh b1 b2 h0 h1 (by omega), Result.andThen_ok, hel, hes, Result.andThen_ok, sliced, hsz']
      · have hlen : ((xs.drop l.toNat).take (hh.toNat - l.toNat)).length = hh.toNat - l.toNat := by simp; omega
        have hesz : ∀ e, e ∈ (xs.drop l.toNat).take (hh.toNat - l.toNat) → e.cells.length = sz := fun e he => hsz e (List.mem_of_mem_drop (List.mem_of_mem_take he))
        rcases Nat.eq_zero_or_pos (hh.toNat - l.toNat) with hz | hz
        · rw [hz]
          simp only [List.take_zero]
          exact .empty _ _ _ _ (by omega)
        · have hne : xs ≠ [] := by
            rintro rfl
            simp at h2; omega
          rcases hrow with h | ⟨b, off, vals, hb, hF, hcell, hrep⟩
          · exact absurd h hne
          · subst hb
            rw [if_neg (by omega)]
            simp only [Option.map_some, add_plain]
            refine .list _ b (off + l.toNat * sz) _ _ _ _ (fun i j => vals (l.toNat + i) j) hlen.symm (by omega) (by omega) hesz (fun j hj => ?_) (fun i e j c hi hj => ?_) (fun i e j c hi hj => ?_)
            · rw [Nat.add_assoc]
              refine hF _ ?_
              rw [hlen] at hj
              have h3 : (l.toNat + (hh.toNat - l.toNat)) * sz ≤ xs.length * sz := Nat.mul_le_mul_right _ (by omega)
              rw [Nat.add_mul] at h3
              omega
            · have hi2 : xs[l.toNat + i]? = some e := by
                rw [List.getElem?_take] at hi
                split at hi
                · rw [List.getElem?_drop] at hi; exact hi
                · cases hi
              have := hcell _ _ _ _ hi2 hj
              rw [show off + l.toNat * sz + (i * sz + j) = off + ((l.toNat + i) * sz + j) by rw [Nat.add_mul]; omega]
              exact this
            · have hi2 : xs[l.toNat + i]? = some e := by
                rw [List.getElem?_take] at hi
                split at hi
                · rw [List.getElem?_drop] at hi; exact hi
                · cases hi
              exact hrep _ _ _ _ hi2 hj
    · rename_i e id off len sz hd
      rw [hd] at hu
      have hu' : P.underlying ty = some (.slice (P.elem ty)) := by simp [Program.elem, hu]
      have hel : P.elem ty = e := by simp [Program.elem, hu]
      have hes := fun w => hf.run_esz w (.inl hd)
      obtain ⟨l, h, hl⟩ := bndE_ok (E := E) h
      obtain ⟨hh, h, hh'⟩ := bndE_ok (E := E) h
      obtain ⟨hcnd, h⟩ := h
      refine ⟨_, none, _, h, fun hg => .value fun B G w a hgd hN => ?_⟩
      obtain ⟨h0, h1, h2⟩ := hcnd hg
      have hr := key B G w a hgd hN hg
      obtain ⟨b1, b2⟩ := bnds hl hh' B G w a hgd hN hg
      have he := hexec a w
      generalize a.eval x = vx at *
      cases hr with
      | row0 _ _ _ _ a0 =>
        refine ⟨_, he (.slice (if 0 = l.toNat then a0 else a0.map (·.add (l.toNat * ti.esz))) (hh.toNat - l.toNat) (0 - l.toNat)) ?_, ?_, trivial⟩
        · rw [run_sliceAt_slice w ty _ _ _ _ hu', run_slice_any w ty a0 0 0 hu', run_bounds w true 0 0 _ _ l hh b1 b2 h0 h1 (by omega), Result.andThen_ok, hel, hes, Result.andThen_ok, sliced]
        · rw [show hh.toNat - l.toNat = 0 by simp at h2; omega, show 0 - l.toNat = 0 by omega]
          exact .row0 ..
      | row _ _ _ _ cap _ g' hι hcap hm hbr =>
      refine ⟨_, he (.slice (if cap = l.toNat then some ⟨g', off, none⟩ else (some (⟨g', off, none⟩ : Addr)).map (·.add (l.toNat * ti.esz))) (hh.toNat - l.toNat) (cap - l.toNat)) ?_, ?_, trivial⟩
      · rw [run_sliceAt_slice w ty _ _ _ _ hu', run_slice_any w ty (some ⟨g', off, none⟩) len cap hu', run_bounds w true len cap _ _ l hh b1 b2 h0 h1 (by omega), Result.andThen_ok, hel, hes, Result.andThen_ok, sliced]
      · by_cases hcl' : cap = l.toNat
        · rw [show hh.toNat - l.toNat = 0 by omega, show cap - l.toNat = 0 by omega]
          exact .row0 ..
        · rw [if_neg hcl']
          simp only [Option.map_some, add_plain]
          exact .row _ _ _ _ _ _ _ hι (by omega) (by omega) (room_sub hbr (by omega))
    · rename_i n e id off hd
      rw [hd] at hu
      have hes := fun w => hf.run_esz w (.inr ⟨n, hd⟩)
      obtain ⟨l, h, hl⟩ := bndE_ok (E := E) h
      obtain ⟨hh, h, hh'⟩ := bndE_ok (E := E) h
      obtain ⟨⟨hcnd, hn⟩, h⟩ := h
      refine ⟨_, none, _, h, fun hg => .value fun B G w a hgd hN => ?_⟩
      obtain ⟨h0, h1, h2⟩ := hcnd hg
      have hr := key B G w a hgd hN hg
      obtain ⟨b1, b2⟩ := bnds hl hh' B G w a hgd hN hg
      have he := hexec a w
      generalize a.eval x = vx at *
      cases hr with
      | ptr _ _ _ g' hι =>
      refine ⟨_, he (.slice (some ⟨g', off + l.toNat * ti.esz, none⟩) (hh.toNat - l.toNat) (n - l.toNat)) ?_, .row _ _ _ _ _ _ _ hι (by omega) (by unfold maxLen; omega) (fun h => absurd h (Nat.lt_irrefl _)), trivial⟩
      simp only [Instr.sliceAt, Instr.sureAddr, Sem.run_bind, run_underlying hu, Result.andThen_ok, Sem.run_pure]
      rw [run_bounds w false n n _ _ l hh b1 b2 h0 (by omega) (by omega), Result.andThen_ok, hes, Result.andThen_ok, if_neg (show ¬ n = l.toNat by omega)]
      simp [add_plain]
    · exact h.elim
def evFieldAddr (T : Tab) (st : St) (g : Bool) (ty : TypeId) (x : Operand) (n : Nat) (k : AV → Option Nat → List Loc → Prop) : Prop :=
  unc g (evV T st 0 x) fun a => match T.at ty with
    | none => False
    | some ti => match ti.desc with
      | .struct fs => optE fs[n]? fun f => match a with
        | .ptr id off => k (.ptr id (off + f.offset)) none (opN x)
        | .iptr cs => k (.iptr (cs.drop f.offset)) none (opN x)
        | _ => False
      | _ => False
theorem iptr_drop {F : Nat → Nat → Prop} {w : World} {ι : Nat → Option Nat} {b o : Nat} {cs : List AV} {vals : Nat → Value} (n : Nat) (hF : ∀ j, j < cs.length → F b (o + j))
    (hv : ∀ (j : Nat) (c : AV), cs[j]? = some c → w.cell? ⟨b, o + j, none⟩ = some (vals j) ∧ (vals j).oneCell' = true) (hr : ∀ (j : Nat) (c : AV), cs[j]? = some c → Rep F w (fun _ => none) (vals j) c) :
    Rep F w ι (.pointer (some ⟨b, o + n, none⟩)) (.iptr (cs.drop n)) := by
  refine .iptr _ b (o + n) _ (fun j => vals (n + j)) (fun j hj => ?_) (fun j c hc => ?_) (fun j c hc => ?_)
  · rw [Nat.add_assoc]; refine hF _ ?_; simp at hj; omega
  · rw [List.getElem?_drop] at hc; rw [Nat.add_assoc]; exact hv _ _ hc
  · rw [List.getElem?_drop] at hc; exact hr _ _ hc
theorem evFieldAddr_ok (hT : TOk P T) {ty : TypeId} {x : Operand} {n : Nat} (hc : constOk T o = true) (ho : o.op = .fieldAddr ty x n) (h : evFieldAddr T st g ty x n k) : Yld E P st o g k := by
  unfold evFieldAddr at h
  obtain ⟨a', h, ha'⟩ := unc_ok h
  split at h
  · exact h.elim
  · rename_i ti hti
    have hf := hT _ _ hti
    have hu := hf.under
    split at h
    · rename_i fs hd
      rw [hd] at hu
      obtain ⟨f, hfn, h⟩ := optE_ok h
      have hexec : ∀ (a : Act) (w : World) (ad : Addr), a.eval x = .pointer (some ad) → (execOp a.eval o).run P w = .ok (.value (.pointer (some (ad.add f.offset)))) w := by
        intro a w ad hv
        simp only [execOp, ho, Sem.run_bind, Instr.fieldAt, run_underlying hu, Result.andThen_ok, hfn, hv, Instr.sureAddr, Sem.run_pure, hf.run_fieldPlace w hd hfn]
      split at h
      · refine ⟨_, none, _, h, fun hg => .value fun B G w a hgd hN => ?_⟩
        have h1 := ha' hg _ _ _ _ (evV_ok (T := T) hgd (constOk.at hc (ty := 0) (x := x) (by simp [opcs, ho])) hN).1
        have he := hexec a w
        generalize a.eval x = vx at *
        cases h1 with
        | ptr _ _ _ gg hι => exact ⟨_, he _ rfl, by rw [add_plain]; exact .ptr _ _ _ _ hι, trivial⟩
      · refine ⟨_, none, _, h, fun hg => .value fun B G w a hgd hN => ?_⟩
        have h1 := ha' hg _ _ _ _ (evV_ok (T := T) hgd (constOk.at hc (ty := 0) (x := x) (by simp [opcs, ho])) hN).1
        have he := hexec a w
        generalize a.eval x = vx at *
        cases h1 with
        | iptr _ b oo _ vals hF hv hr => exact ⟨_, he _ rfl, by rw [add_plain]; exact iptr_drop _ hF hv hr, trivial⟩
      · exact h.elim
    · exact h.elim
def partE (ft : Option TI) (cs : List AV) (off : Nat) (k : AV → Prop) : Prop :=
  match ft with
  | none => False
  | some fi => match isAggD fi.desc with
    | true => off + fi.size ≤ cs.length ∧ k (.agg ((cs.drop off).take fi.size))
    | false => optE cs[off]? k
theorem partE_ok (hT : TOk P T) {ty : TypeId} {cs : List AV} {off : Nat} {k : AV → Prop} (h : partE (T.at ty) cs off k) : ∃ r, k r ∧ ∀ (F : Nat → Nat → Prop) (w : World) (ι : Nat → Option Nat) (vs : List Value),
    Rep F w ι (.agg vs.toArray) (.agg cs) → ∃ v, (part ty vs.toArray off).run P w = .ok v w ∧ Rep F w ι v r := by
  unfold partE at h
  split at h
  · exact h.elim
  · rename_i fi hfi
    have hf := hT _ _ hfi
    split at h
    · rename_i ha
      obtain ⟨hle, h⟩ := h
      refine ⟨_, h, fun F w ι vs hr => ?_⟩
      cases hr with
      | agg _ _ _ hl ho hr =>
      refine ⟨.agg ((vs.drop off).take fi.size).toArray, ?_, ?_⟩
      · simp only [part, Sem.run_bind, hf.run_agg, ha, Result.andThen_ok, if_true, hf.run_size, Sem.run_pure]
        congr 2
        simp
      · refine .agg _ _ _ (by simp [hl]) (fun v hv => ho v (List.mem_of_mem_drop (List.mem_of_mem_take hv))) fun i v c hv hc => ?_
        rw [List.getElem?_take] at hv hc
        split at hv
        · rw [if_pos (by assumption), List.getElem?_drop] at hc
          rw [List.getElem?_drop] at hv
          exact hr _ _ _ hv hc
        · cases hv
    · rename_i ha
      obtain ⟨c, hc, h⟩ := optE_ok h
      refine ⟨_, h, fun F w ι vs hr => ?_⟩
      cases hr with
      | agg _ _ _ hl ho hr =>
      have hi : off < vs.length := by have := (List.getElem?_eq_some_iff.1 hc).1; omega
      refine ⟨vs[off], ?_, hr off _ _ (List.getElem?_eq_getElem hi) hc⟩
      simp only [part, Sem.run_bind, hf.run_agg, ha, Result.andThen_ok, Bool.false_eq_true, if_false]
      simp [List.getElem?_eq_getElem hi]
def evField (T : Tab) (st : St) (g : Bool) (ty : TypeId) (x : Operand) (n : Nat) (k : AV → Option Nat → List Loc → Prop) : Prop :=
  unc g (evV T st ty x) fun a => match T.at ty with
    | none => False
    | some ti => match ti.desc, a with
      | .struct fs, .agg cs => optE fs[n]? fun f => partE (T.at f.type) cs f.offset fun r => k r none (opN x)
      | _, _ => False
theorem evField_ok (hT : TOk P T) {ty : TypeId} {x : Operand} {n : Nat} (hc : constOk T o = true) (ho : o.op = .field ty x n) (h : evField T st g ty x n k) : Yld E P st o g k := by
  unfold evField at h
  obtain ⟨a', h, ha'⟩ := unc_ok h
  split at h
  · exact h.elim
  · rename_i ti hti
    have hu := (hT _ _ hti).under
    split at h
    · rename_i fs cs hd
      rw [hd] at hu
      obtain ⟨f, hfn, h⟩ := optE_ok h
      obtain ⟨r, h, hr⟩ := partE_ok hT h
      refine ⟨_, none, _, h, fun hg => .value fun B G w a hgd hN => ?_⟩
      have h1 := ha' hg _ _ _ _ (evV_ok (T := T) hgd (constOk.at hc (ty := ty) (x := x) (by simp [opcs, ho])) hN).1
      generalize hv : a.eval x = vx at *
      have h2 := h1
      cases h1 with
      | agg _ vs _ hl _ _ =>
      obtain ⟨v, hv', hrep⟩ := hr _ _ _ _ h2
      exact ⟨v, by simp only [execOp, ho, hv, Sem.run_bind, Instr.field, run_underlying hu, Result.andThen_ok, hfn, asAgg, Sem.run_pure, hv'], hrep, trivial⟩
    · exact h.elim
def evIndexAddr (T : Tab) (st : St) (g : Bool) (ty : TypeId) (x i : Operand) (k : AV → Option Nat → List Loc → Prop) : Prop :=
  unc g (evV T st ty x) fun a => unc g (evV T st 0 i) fun ix => match T.at ty, ix with
    | some ti, .int _ n => match ti.desc, a with
      | .slice _, .list sz xs => ti.esz = sz ∧ ∃ e, (g = true → 0 ≤ n ∧ xs[n.toNat]? = some e) ∧ k (.iptr e.cells) none (opN x ++ opN i)
      | .slice _, .row id off len _ => (g = true → 0 ≤ n ∧ n < (len : Int)) ∧ k (.ptr id (off + n.toNat * ti.esz)) none (opN x ++ opN i)
      | .array len _, .ptr id off => (g = true → 0 ≤ n ∧ n < (len : Int)) ∧ k (.ptr id (off + n.toNat * ti.esz)) none (opN x ++ opN i)
      | .array len _, .iptr cs => (g = true → 0 ≤ n ∧ n < (len : Int)) ∧ k (.iptr (cs.drop (n.toNat * ti.esz))) none (opN x ++ opN i)
      | _, _ => False
    | _, _ => False
theorem evIndexAddr_ok (hT : TOk P T) {ty : TypeId} {x i : Operand} (hc : constOk T o = true) (ho : o.op = .indexAddr ty x i) (h : evIndexAddr T st g ty x i k) : Yld E P st o g k := by
  unfold evIndexAddr at h
  obtain ⟨a', h, ha'⟩ := unc_ok h
  obtain ⟨b', h, hb'⟩ := unc_ok h
  split at h
  · rename_i ti kd n hti
    have hf := hT _ _ hti
    have hu := hf.under
    have key : ∀ (B : Base) (G : Gh) (w : World) (a : Act), Good E B G w → (∀ l, l ∈ opN x ++ opN i → RepL G w a l st) → g = true → Rep G.F w G.ι (a.eval x) a' ∧ a.eval i = .int kd n := fun B G w a hgd hN hg => by
      refine ⟨ha' hg _ _ _ _ (evV_ok (T := T) hgd (constOk.at hc (ty := ty) (x := x) (by simp [opcs, ho])) fun l hl => hN l (mem2.1 hl)).1, ?_⟩
      have := hb' hg _ _ _ _ (evV_ok (T := T) hgd (constOk.at hc (ty := 0) (x := i) (by simp [opcs, ho])) fun l hl => hN l (mem2.2 hl)).1
      generalize a.eval i = v at *
      cases this; rfl
    split at h
    · rename_i e sz xs hd _
      rw [hd] at hu
      obtain ⟨hsz', el, hcnd, h⟩ := h
      have hes := fun w => hf.run_esz w (.inl hd)
      have hu' : P.underlying ty = some (.slice (P.elem ty)) := by simp [Program.elem, hu]
      have hel : P.elem ty = e := by simp [Program.elem, hu]
      refine ⟨_, none, _, h, fun hg => .value fun B G w a hgd hN => ?_⟩
      obtain ⟨h0, hi⟩ := hcnd hg
      obtain ⟨h1, h2⟩ := key B G w a hgd hN hg
      obtain ⟨ad, nn, cap, hv, hn, hc', hm, hsz, hrow⟩ := h1.list_inv
      have hilt : n.toNat < xs.length := (List.getElem?_eq_some_iff.1 hi).1
      rcases hrow with h | ⟨b, off, vals, hb, hF, hcell, hrep⟩
      · rw [h] at hilt; simp at hilt
      · subst hb
        refine ⟨.pointer (some ⟨b, off + n.toNat * sz, none⟩), ?_, .iptr _ b _ _ (fun j => vals n.toNat j) (fun j hj => ?_) (fun j c hj => ?_) (fun j c hj => hrep _ _ _ _ hi hj), trivial⟩
        · simp only [execOp, ho, Sem.run_bind, h2, hv, run_indexAt_slice w ty _ _ _ _ _ hu', hel, hes]
          rw [if_pos (by omega), hsz']
          simp [add_plain]
        · rw [Nat.add_assoc]
          refine hF _ ?_
          have := hsz el (List.mem_of_getElem? hi)
          have h1 : (n.toNat + 1) * sz ≤ xs.length * sz := Nat.mul_le_mul_right _ hilt
          rw [Nat.add_mul] at h1
          omega
        · rw [Nat.add_assoc]; exact hcell _ _ _ _ hi hj
    · rename_i e id off len szr hd _
      rw [hd] at hu
      obtain ⟨hcnd, h⟩ := h
      have hes := fun w => hf.run_esz w (.inl hd)
      have hu' : P.underlying ty = some (.slice (P.elem ty)) := by simp [Program.elem, hu]
      have hel : P.elem ty = e := by simp [Program.elem, hu]
      refine ⟨_, none, _, h, fun hg => .value fun B G w a hgd hN => ?_⟩
      obtain ⟨h0, h1⟩ := hcnd hg
      obtain ⟨r1, r2⟩ := key B G w a hgd hN hg
      generalize hv : a.eval x = vx at *
      cases r1 with
      | row0 => simp at h1; omega
      | row _ _ _ _ cap _ g' hι hcap hm =>
      refine ⟨.pointer (some ⟨g', off + n.toNat * ti.esz, none⟩), ?_, .ptr _ _ _ _ hι, trivial⟩
      simp only [execOp, ho, Sem.run_bind, r2, hv, run_indexAt_slice w ty _ _ _ _ _ hu', hel, hes]
      rw [if_pos (by omega)]
      simp [add_plain]
    · rename_i len e id off hd _
      rw [hd] at hu
      obtain ⟨hcnd, h⟩ := h
      have hes := fun w => hf.run_esz w (.inr ⟨len, hd⟩)
      have hu' : P.underlying ty = some (.array (P.arrayLen ty) (P.elem ty)) := by simp [Program.elem, Program.arrayLen, hu]
      have hel : P.elem ty = e := by simp [Program.elem, hu]
      have hal : P.arrayLen ty = len := by simp [Program.arrayLen, hu]
      refine ⟨_, none, _, h, fun hg => .value fun B G w a hgd hN => ?_⟩
      obtain ⟨h0, h1⟩ := hcnd hg
      obtain ⟨r1, r2⟩ := key B G w a hgd hN hg
      generalize hv : a.eval x = vx at *
      cases r1 with
      | ptr _ _ _ g' hι =>
      refine ⟨.pointer (some ⟨g', off + n.toNat * ti.esz, none⟩), ?_, .ptr _ _ _ _ hι, trivial⟩
      simp only [execOp, ho, Sem.run_bind, r2, hv, run_indexAt_array w ty _ _ _ hu', hel, hal, hes]
      rw [if_pos (by omega)]
      simp [add_plain]
    · rename_i len e cs hd _
      rw [hd] at hu
      obtain ⟨hcnd, h⟩ := h
      have hes := fun w => hf.run_esz w (.inr ⟨len, hd⟩)
      have hu' : P.underlying ty = some (.array (P.arrayLen ty) (P.elem ty)) := by simp [Program.elem, Program.arrayLen, hu]
      have hel : P.elem ty = e := by simp [Program.elem, hu]
      have hal : P.arrayLen ty = len := by simp [Program.arrayLen, hu]
      refine ⟨_, none, _, h, fun hg => .value fun B G w a hgd hN => ?_⟩
      obtain ⟨h0, h1⟩ := hcnd hg
      obtain ⟨r1, r2⟩ := key B G w a hgd hN hg
      generalize hv : a.eval x = vx at *
      cases r1 with
      | iptr _ b oo _ vals hF hvv hr =>
      refine ⟨.pointer (some ⟨b, oo + n.toNat * ti.esz, none⟩), ?_, iptr_drop _ hF hvv hr, trivial⟩
      simp only [execOp, ho, Sem.run_bind, r2, hv, run_indexAt_array w ty _ _ _ hu', hel, hal, hes]
      rw [if_pos (by omega)]
      simp [add_plain]
    · exact h.elim
  · exact h.elim
def evIndex (T : Tab) (st : St) (g : Bool) (ty : TypeId) (x i : Operand) (k : AV → Option Nat → List Loc → Prop) : Prop :=
  unc g (evV T st ty x) fun a => unc g (evV T st 0 i) fun ix => match T.at ty, ix with
    | some ti, .int _ n => match ti.desc, a with
      | .string, .str s => ∃ b, (g = true → 0 ≤ n ∧ s[n.toNat]? = some b) ∧ k (byteAV b) none (opN x ++ opN i)
      | _, _ => False
    | _, _ => False
theorem u8_wrap (b : UInt8) : IntKind.u8.wrap (b.toNat : Int) = b.toNat := by
  have := b.toNat_lt
  exact IntWalk.u8_in _ (by omega)
theorem evIndex_ok (hT : TOk P T) {ty : TypeId} {x i : Operand} (hc : constOk T o = true) (ho : o.op = .index ty x i) (h : evIndex T st g ty x i k) : Yld E P st o g k := by
  unfold evIndex at h
  obtain ⟨a', h, ha'⟩ := unc_ok h
  obtain ⟨b', h, hb'⟩ := unc_ok h
  split at h
  · rename_i ti kd n hti
    have hu := (hT _ _ hti).under
    split at h
    · rename_i s hd _
      rw [hd] at hu
      obtain ⟨b, hcnd, h⟩ := h
      refine ⟨_, none, _, h, fun hg => .value fun B G w a hgd hN => ?_⟩
      obtain ⟨h0, hi⟩ := hcnd hg
      have r1 := ha' hg _ _ _ _ (evV_ok (T := T) hgd (constOk.at hc (ty := ty) (x := x) (by simp [opcs, ho])) fun l hl => hN l (mem2.1 hl)).1
      have r2 := hb' hg _ _ _ _ (evV_ok (T := T) hgd (constOk.at hc (ty := 0) (x := i) (by simp [opcs, ho])) fun l hl => hN l (mem2.2 hl)).1
      generalize hv : a.eval x = vx at *
      generalize hv2 : a.eval i = vi at *
      cases r1; cases r2
      have hilt : n.toNat < s.length := (List.getElem?_eq_some_iff.1 hi).1
      refine ⟨.int .u8 b.toNat, ?_, .int _ _ _ (u8_wrap b), trivial⟩
      have hb : (⟨s.toArray⟩ : ByteArray)[n.toNat]? = some b := by
        rw [ByteArray.getElem?_lt' _ _ (by simpa [ByteArray.size] using hilt)]
        have : (⟨s.toArray⟩ : ByteArray)[n.toNat]'(by simpa [ByteArray.size] using hilt) = s[n.toNat] := rfl
        rw [this]
        rw [List.getElem?_eq_getElem hilt] at hi
        exact hi
      simp only [execOp, ho, hv, hv2, Sem.run_bind, Instr.index, asIntOf, Sem.run_pure, Result.andThen_ok, run_underlying hu, if_pos h0, hb]
    · exact h.elim
  · exact h.elim
def evLoad (T : Tab) (st : St) (g : Bool) (ty : TypeId) (x : Operand) (k : AV → Option Nat → List Loc → Prop) : Prop :=
  unc g (evV T st 0 x) fun a => match T.at ty with
    | none => False
    | some ti => match a with
      | .iptr cs => (match isAggD ti.desc with
        | true => ti.size ≤ cs.length ∧ k (.agg (cs.take ti.size)) none (opN x)
        | false => optE cs[0]? fun c => k c none (opN x))
      | .ptr id off => optE st.H[id]? fun ob => match ob with
        | .cells _ cs tg => (match isAggD ti.desc with
          | true => (0 < ti.size ∧ off + ti.size ≤ cs.length) ∧ ∃ tn, aggT tg off ti.size = tn ∧ k (.agg ((cs.drop off).take ti.size)) tn (opN x ++ [.obj id])
          | false => optE cs[off]? fun c => k c (tg.lookup off) (opN x ++ [.obj id]))
        | _ => False
      | _ => False
theorem evLoad_ok (hT : TOk P T) {ty : TypeId} {x : Operand} (hc : constOk T o = true) (ho : o.op = .load ty x) (h : evLoad T st g ty x k) : Yld E P st o g k := by
  unfold evLoad at h
  obtain ⟨a', h, ha'⟩ := unc_ok h
  split at h
  · exact h.elim
  · rename_i ti hti
    have hf := hT _ _ hti
    have hagg : ∀ (a : Act) (w : World) (ad : Addr) (vs : List Value), a.eval x = .pointer (some ad) → isAggD ti.desc = true → vs.length = ti.size → (∀ j v, vs[j]? = some v → w.cell? (ad.add j) = some v) →
        (execOp a.eval o).run P w = .ok (.value (.agg vs.toArray)) w := by
      intro a w ad vs hv ha hl hcell
      simp only [execOp, ho, Sem.run_bind, Instr.loadAt, hv, Instr.sureAddr, Sem.run_pure, Result.andThen_ok, loadVar, hf.run_agg, ha, if_true, hf.run_size, ← hl, run_loadCells_list w ad vs hcell]
    have hone : ∀ (a : Act) (w : World) (ad : Addr) (v : Value), a.eval x = .pointer (some ad) → isAggD ti.desc = false → w.cell? ad = some v → (execOp a.eval o).run P w = .ok (.value v) w := by
      intro a w ad v hv ha hcell
      simp only [execOp, ho, Sem.run_bind, Instr.loadAt, hv, Instr.sureAddr, Sem.run_pure, Result.andThen_ok, loadVar, hf.run_agg, ha, Bool.false_eq_true, if_false, run_load, hcell]
    split at h
    · rename_i cs
      split at h
      · rename_i ha
        obtain ⟨hle, h⟩ := h
        refine ⟨_, none, _, h, fun hg => .value fun B G w a hgd hN => ?_⟩
        have r1 := ha' hg _ _ _ _ (evV_ok (T := T) hgd (constOk.at hc (ty := 0) (x := x) (by simp [opcs, ho])) hN).1
        generalize hv : a.eval x = vx at *
        cases r1 with
        | iptr _ b oo _ vals hF hvv hr =>
        have hl : ((List.range ti.size).map vals).length = ti.size := by simp
        refine ⟨_, hagg a w _ ((List.range ti.size).map vals) hv ha hl (fun j v hj => ?_), ?_, trivial⟩
        · have hjl : j < ti.size := by have := (List.getElem?_eq_some_iff.1 hj).1; simpa using this
          have hv' : vals j = v := by simpa [hjl] using hj
          rw [add_plain, (hvv j _ (List.getElem?_eq_getElem (by omega))).1, hv']
        · refine .agg _ _ _ (by simp; omega) (fun v hv => ?_) fun i v c hi hc => ?_
          · obtain ⟨j, hj, rfl⟩ := List.mem_map.1 hv
            exact (hvv j _ (List.getElem?_eq_getElem (by have := List.mem_range.1 hj; omega))).2
          · have hil : i < ti.size := by have := (List.getElem?_eq_some_iff.1 hi).1; simpa using this
            have hv' : vals i = v := by simpa [hil] using hi
            rw [List.getElem?_take, if_pos hil] at hc
            rw [← hv']
            exact (hr i c hc).mono (fun _ _ h => h) (fun _ _ _ => rfl) _ (fun _ _ h => by cases h)
      · rename_i ha
        obtain ⟨c, hcs, h⟩ := optE_ok h
        refine ⟨_, none, _, h, fun hg => .value fun B G w a hgd hN => ?_⟩
        have r1 := ha' hg _ _ _ _ (evV_ok (T := T) hgd (constOk.at hc (ty := 0) (x := x) (by simp [opcs, ho])) hN).1
        generalize hv : a.eval x = vx at *
        cases r1 with
        | iptr _ b oo _ vals hF hvv hr =>
        exact ⟨_, hone a w _ _ hv ha (hvv 0 c hcs).1, (hr 0 c hcs).mono (fun _ _ h => h) (fun _ _ _ => rfl) _ (fun _ _ h => by cases h), trivial⟩
    · rename_i id off
      obtain ⟨ob, hob, h⟩ := optE_ok h
      split at h
      · rename_i t cs tg
        have hobj : ∀ (G : Gh) (w : World) (a : Act), (∀ l, l ∈ opN x ++ [.obj id] → RepL G w a l st) → RepObj G w id (some (.cells t cs tg)) := by
          intro G w a hN
          have := hN (.obj id) (by simp)
          simpa only [RepL, hob] using this
        split at h
        · rename_i ha
          obtain ⟨⟨hpos, hle⟩, tnq, rfl, h⟩ := h
          refine ⟨_, _, _, h, fun hg => .value fun B G w a hgd hN => ?_⟩
          have r1 := ha' hg _ _ _ _ (evV_ok (T := T) hgd (constOk.at hc (ty := 0) (x := x) (by simp [opcs, ho])) fun l hl => hN l (List.mem_append_left _ hl)).1
          obtain ⟨gg, i1, i2, i3, vals, fz, i4, i5, i6, i7⟩ := (hobj G w a hN).resolve_left (by rintro ⟨rfl, _⟩; simp at hle; omega)
          generalize hv : a.eval x = vx at *
          cases r1 with
          | ptr _ _ _ g' hι =>
          rw [i1] at hι
          injection hι with hι
          subst hι
          have hsz : cs.length ≤ vals.toList.length := by simpa using i6
          have hl : ((vals.toList.drop off).take ti.size).length = ti.size := by simp; omega
          have htag : TagOk G (.agg ((vals.toList.drop off).take ti.size).toArray) (.agg ((cs.drop off).take ti.size)) (some (encT tg off ti.size)) := by
            refine .inr ⟨_, rfl, fun j => ⟨fun sz hd => absurd hd (encT_dg _ _ _ _).1, fun t' c u hd hc hu => ?_⟩⟩
            have hu : ((vals.toList.drop off).take ti.size).toArray[j]? = some u := hu
            rw [List.getElem?_toArray, List.getElem?_take] at hu
            rw [List.getElem?_take] at hc
            split at hc
            · rename_i hjs
              rw [if_pos hjs, List.getElem?_drop, Array.getElem?_toList] at hu
              rw [List.getElem?_drop] at hc
              obtain ⟨u', u1, u2, u3, u4⟩ := i7 _ _ hc
              rw [hu] at u1
              injection u1 with u1
              subst u1
              rw [(encT_dg _ _ _ _).2 t' hd] at u4
              rcases u4 with u4 | ⟨cs5, h6, _⟩
              · exact u4
              · exact (agg_noOne (h6 ▸ u3) u2).elim
            · cases hc
          refine ⟨_, hagg a w _ _ hv ha hl (fun j v hj => ?_), ?_, aggT_ok htag⟩
          · rw [List.getElem?_take] at hj
            split at hj
            · rw [List.getElem?_drop] at hj
              rw [add_plain]
              simpa [World.cell?, i4] using hj
            · cases hj
          · refine .agg _ _ _ (by rw [hl]; simp; omega) (fun v hv => ?_) fun i v c hi hc => ?_
            · obtain ⟨j, hj, hjv⟩ := List.getElem_of_mem hv
              have hj' : j < ti.size := by rw [hl] at hj; exact hj
              have hjv2 : vals[off + j]? = some v := by
                have := List.getElem?_eq_getElem hj
                rw [hjv, List.getElem?_take, if_pos hj', List.getElem?_drop, Array.getElem?_toList] at this
                exact this
              obtain ⟨u, u1, u2, _⟩ := i7 (off + j) _ (List.getElem?_eq_getElem (by omega))
              rw [hjv2] at u1
              injection u1 with u1
              subst u1
              exact u2
            · rw [List.getElem?_take] at hi hc
              split at hi
              · rw [if_pos (by assumption), List.getElem?_drop] at hc
                rw [List.getElem?_drop, Array.getElem?_toList] at hi
                obtain ⟨u, u1, _, u3⟩ := i7 _ _ hc
                rw [hi] at u1
                injection u1 with u1
                subst u1
                exact u3.1
              · cases hi
        · rename_i ha
          obtain ⟨c, hcs, h⟩ := optE_ok h
          refine ⟨_, _, _, h, fun hg => .value fun B G w a hgd hN => ?_⟩
          have r1 := ha' hg _ _ _ _ (evV_ok (T := T) hgd (constOk.at hc (ty := 0) (x := x) (by simp [opcs, ho])) fun l hl => hN l (List.mem_append_left _ hl)).1
          obtain ⟨gg, i1, i2, i3, vals, fz, i4, i5, i6, i7⟩ := (hobj G w a hN).resolve_left (by rintro ⟨rfl, _⟩; simp at hcs)
          generalize hv : a.eval x = vx at *
          cases r1 with
          | ptr _ _ _ g' hι =>
          rw [i1] at hι
          injection hι with hι
          subst hι
          obtain ⟨u, u1, _, u3⟩ := i7 _ _ hcs
          exact ⟨u, hone a w _ _ hv ha (by simpa [World.cell?, i4] using u1), u3⟩
      · exact h.elim
    · exact h.elim
def evExtract (T : Tab) (st : St) (g : Bool) (x : Operand) (n : Nat) (k : AV → Option Nat → List Loc → Prop) : Prop :=
  unc g (evV T st 0 x) fun a => match a with
    | .tup cs => optE cs[n]? fun c => k c none (opN x)
    | _ => False
theorem evExtract_ok {x : Operand} {n : Nat} (hc : constOk T o = true) (ho : o.op = .extract x n) (h : evExtract T st g x n k) : Yld E P st o g k := by
  unfold evExtract at h
  obtain ⟨a', h, ha'⟩ := unc_ok h
  split at h
  · obtain ⟨c, hcs, h⟩ := optE_ok h
    refine ⟨_, none, _, h, fun hg => .value fun B G w a hgd hN => ?_⟩
    have r1 := ha' hg _ _ _ _ (evV_ok (T := T) hgd (constOk.at hc (ty := 0) (x := x) (by simp [opcs, ho])) hN).1
    generalize hv : a.eval x = vx at *
    cases r1 with
    | tup _ vs _ hl hr =>
    have hi : n < vs.length := by have := (List.getElem?_eq_some_iff.1 hcs).1; omega
    refine ⟨vs[n], ?_, hr n _ _ (List.getElem?_eq_getElem hi) hcs, trivial⟩
    simp [execOp, ho, hv, Instr.extract, List.getElem?_eq_getElem hi]
  · exact h.elim
def evMakeIface (T : Tab) (st : St) (ty : TypeId) (x : Operand) (k : AV → Option Nat → List Loc → Prop) : Prop :=
  match T.at ty with
  | none => False
  | some ti => match ti.desc with
    | .interface _ => False
    | _ => k (.iface ty (evV T st ty x)) none (opN x)
theorem evMakeIface_ok (hT : TOk P T) {ty : TypeId} {x : Operand} (hc : constOk T o = true) (ho : o.op = .makeInterface ty x) (h : evMakeIface T st ty x k) : Yld E P st o g k := by
  unfold evMakeIface at h
  split at h
  · exact h.elim
  · rename_i ti hti
    have hu := (hT _ _ hti).under
    split at h
    · exact h.elim
    · rename_i hni
      refine ⟨_, none, _, h, fun hg => .value fun B G w a hgd hN => ?_⟩
      have r1 := (evV_ok (T := T) hgd (constOk.at hc (ty := ty) (x := x) (by simp [opcs, ho])) hN).1
      refine ⟨.iface ty (a.eval x), ?_, .iface _ _ _ _ r1, trivial⟩
      simp only [execOp, ho, Sem.run_bind, Instr.makeInterface, run_underlying hu, Result.andThen_ok]
      generalize ti.desc = d at *
      cases d <;> first | rfl | exact (hni _ rfl).elim
def evAssert (T : Tab) (st : St) (x : Operand) (asserted : TypeId) (ok : Bool) (k : AV → Option Nat → List Loc → Prop) : Prop :=
  match T.at asserted with
  | none => False
  | some ti => match ti.desc with
    | .interface _ => False
    | _ => match ok, evV T st 0 x with
      | false, .iface t v => Nat.beq t asserted = true ∧ k v none (opN x)
      | _, _ => False
theorem evAssert_ok (hT : TOk P T) {x : Operand} {xt asserted : TypeId} {ok : Bool} (hc : constOk T o = true) (ho : o.op = .typeAssert x xt asserted ok) (h : evAssert T st x asserted ok k) : Yld E P st o g k := by
  unfold evAssert at h
  split at h
  · exact h.elim
  · rename_i ti hti
    have hu := (hT _ _ hti).under
    split at h
    · exact h.elim
    · rename_i hni
      split at h
      · rename_i t v hx
        obtain ⟨ht, h⟩ := h
        have ht := Nat.eq_of_beq_eq_true ht
        subst ht
        refine ⟨_, none, _, h, fun hg => .value fun B G w a hgd hN => ?_⟩
        have r1 := (evV_ok (T := T) hgd (constOk.at hc (ty := 0) (x := x) (by simp [opcs, ho])) hN).1
        rw [hx] at r1
        generalize hv : a.eval x = vx at *
        cases r1 with
        | iface _ _ u _ r2 =>
        refine ⟨u, ?_, r2, trivial⟩
        simp only [execOp, ho, Sem.run_bind, hv, Instr.typeAssert, run_underlying hu, Result.andThen_ok]
        generalize ti.desc = d at *
        cases d <;> first | (simp only [if_true]; rfl) | exact (hni _ rfl).elim
      · exact h.elim
def evMakeFunc (T : Tab) (st : St) (fn : Fn) (a b : List Operand) (k : AV → Option Nat → List Loc → Prop) : Prop :=
  match fn with
  | .func f => k (.fn f (a.map (evV T st 0)) (b.map (evV T st 0))) none ((a ++ b).flatMap opN)
  | _ => False
theorem evMakeFunc_ok {fn : Fn} {a b : Array Operand} (hc : constOk T o = true) (ho : o.op = .makeFunc fn a b) (h : evMakeFunc T st fn a.toList b.toList k) : Yld E P st o g k := by
  unfold evMakeFunc at h
  split at h
  · rename_i f
    refine ⟨_, none, _, h, fun hg => .value fun B G w ac hgd hN => ?_⟩
    refine ⟨.func (.func f) (a.map ac.eval) (b.map ac.eval), by simp [execOp, ho, Instr.makeFunc], ?_, trivial⟩
    have e1 : a.map ac.eval = (a.toList.map ac.eval).toArray := by rw [← Array.toList_map]
    have e2 : b.map ac.eval = (b.toList.map ac.eval).toArray := by rw [← Array.toList_map]
    rw [e1, e2]
    have hx : ∀ x, x ∈ a.toList ++ b.toList → Rep G.F w G.ι (ac.eval x) (evV T st 0 x) := fun x hx =>
      (evV_ok (T := T) hgd (constOk.at hc (ty := 0) (x := x) (by
        simp only [opcs, ho, Array.toList_append, List.mem_map]
        exact ⟨x, hx, rfl⟩)) fun l hl => hN l (List.mem_flatMap.2 ⟨x, hx, hl⟩)).1
    refine .fn _ _ _ _ _ _ (by simp) (by simp) (fun i v c hv hc => ?_) (fun i v c hv hc => ?_)
    · rw [List.getElem?_map] at hv hc
      cases hh : a.toList[i]? with
      | none => rw [hh] at hv; cases hv
      | some x =>
        rw [hh] at hv hc
        simp only [Option.map_some, Option.some.injEq] at hv hc
        subst hv hc
        exact hx x (List.mem_append_left _ (List.mem_of_getElem? hh))
    · rw [List.getElem?_map] at hv hc
      cases hh : b.toList[i]? with
      | none => rw [hh] at hv; cases hv
      | some x =>
        rw [hh] at hv hc
        simp only [Option.map_some, Option.some.injEq] at hv hc
        subst hv hc
        exact hx x (List.mem_append_right _ (List.mem_of_getElem? hh))
  · exact h.elim
def evNilCheck (T : Tab) (st : St) (g : Bool) (x : Operand) (k : AV → Option Nat → List Loc → Prop) : Prop :=
  unc g (evV T st 0 x) fun a => match a with
    | .ptr id off => k (.ptr id off) none (opN x)
    | .iptr cs => k (.iptr cs) none (opN x)
    | .glob i => k (.glob i) none (opN x)
    | .fn f a b => k (.fn f a b) none (opN x)
    | _ => False
theorem evNilCheck_ok {x : Operand} (hc : constOk T o = true) (ho : o.op = .nilCheck x) (h : evNilCheck T st g x k) : Yld E P st o g k := by
  unfold evNilCheck at h
  obtain ⟨a', h, ha'⟩ := unc_ok h
  split at h
  all_goals first
    | exact h.elim
    | (refine ⟨_, none, _, h, fun hg => .value fun B G w a hgd hN => ?_⟩
       have r1 := ha' hg _ _ _ _ (evV_ok (T := T) hgd (constOk.at hc (ty := 0) (x := x) (by simp [opcs, ho])) hN).1
       have r2 := r1
       generalize hv : a.eval x = vx at *
       cases r1 <;> exact ⟨_, by simp [execOp, ho, hv], r2, trivial⟩)
end
end Go.Pm
