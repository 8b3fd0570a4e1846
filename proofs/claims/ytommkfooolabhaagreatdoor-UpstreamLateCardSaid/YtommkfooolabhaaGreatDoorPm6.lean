/-
  Generic: more operations that only yield a value: conversions, lengths, places, loads.
-/
import Derived.Test.YtommkfooolabhaaGreatDoorPm5
import Derived.Laws.BytesArg
import Derived.Laws.Slices
import Derived.Laws.Cells
namespace Go.Pm
open Go Go.RowKit
set_option linter.unusedVariables false
set_option linter.unusedSimpArgs false
def byteAV (b : UInt8) : AV := .int .u8 (b.toNat : Int)
theorem Rep.list_inv {F : Nat → Nat → Prop} {w : World} {ι : Nat → Option Nat} {v : Value} {sz : Nat} {xs : List AV} (h : Rep F w ι v (.list sz xs)) :
    ∃ ad n cap, v = .slice ad n cap ∧ n = xs.length ∧ n ≤ cap ∧ cap ≤ maxLen ∧ (∀ e, e ∈ xs → e.cells.length = sz) ∧
      (xs = [] ∨ ∃ (b o : Nat) (vals : Nat → Nat → Value), ad = some ⟨b, o, none⟩ ∧ (∀ j, j < xs.length * sz → F b (o + j)) ∧
        (∀ (i : Nat) (e : AV) (j : Nat) (c : AV), xs[i]? = some e → e.cells[j]? = some c → w.cell? ⟨b, o + (i * sz + j), none⟩ = some (vals i j) ∧ (vals i j).oneCell' = true) ∧
        (∀ (i : Nat) (e : AV) (j : Nat) (c : AV), xs[i]? = some e → e.cells[j]? = some c → Rep F w (fun _ => none) (vals i j) c)) := by
  cases h with
  | empty _ a cap sz h => exact ⟨a, 0, cap, rfl, rfl, Nat.zero_le _, h, by simp, .inl rfl⟩
  | list _ b o n cap sz xs vals hn hc hm hsz hF hv hr => exact ⟨_, n, cap, rfl, hn, hc, hm, hsz, .inr ⟨b, o, vals, rfl, hF, hv, hr⟩⟩
def optE {α : Type} (o : Option α) (k : α → Prop) : Prop :=
  match o with
  | some c => k c
  | none => False
theorem optE_ok {α : Type} {o : Option α} {k : α → Prop} (h : optE o k) : ∃ c, o = some c ∧ k c := by
  unfold optE at h
  split at h
  · exact ⟨_, rfl, h⟩
  · exact h.elim
theorem optE.mk {α : Type} {o : Option α} {k : α → Prop} {c : α} (h : o = some c) (hk : k c) : optE o k := by rw [h]; exact hk
section
variable {E : Env} {P : Program} {T : Tab} {st : St} {o : Oper} {g : Bool} {k : AV → Option Nat → List Loc → Prop}
theorem add_plain (b o n : Nat) : (⟨b, o, none⟩ : Addr).add n = ⟨b, o + n, none⟩ := by
  unfold Addr.add
  split
  · subst_vars; rfl
  · rfl
def evConv (T : Tab) (st : St) (g : Bool) (src dst : TypeId) (x : Operand) (k : AV → Option Nat → List Loc → Prop) : Prop :=
  unc g (evV T st src x) fun a => match T.at src, T.at dst with
    | some si, some di => match di.desc, a with
      | .int kd, .int _ n => k (.int kd (kd.wrap n)) none (opN x)
      | .string, .str s => k (.str s) none (opN x)
      | .string, .list _ xs => si.esz = 1 ∧ (match si.desc with | .slice e => (T.at e).any (fun ti => ti.desc matches .int .u8) = true | _ => False) ∧ ∃ s : Bytes, xs = s.map byteAV ∧ k (.str s) none (opN x)
      | .string, .row id off len _ => (match si.desc with | .slice e => (T.at e).any (fun ti => ti.desc matches .int .u8) = true | _ => False) ∧ optE st.H[id]? fun ob => match ob with
          | .cells _ cs _ => ∃ s : Bytes, (off + len ≤ cs.length ∧ (cs.drop off).take len = s.map byteAV) ∧ k (.str s) none (opN x ++ [.obj id])
          | _ => False
      | _, _ => False
    | _, _ => False
theorem u8_of {ti : Option TI} (h : ti.any (fun ti => ti.desc matches .int .u8) = true) : ∃ i, ti = some i ∧ i.desc = .int .u8 := by
  cases ti with
  | none => cases h
  | some i =>
    refine ⟨i, rfl, ?_⟩
    simp only [Option.any_some] at h
    split at h
    · assumption
    · cases h
theorem byte_back (s : Bytes) : (s.map (fun b : UInt8 => (b.toNat : Int))).map (fun n => UInt8.ofNat n.toNat) = s := by
  simp [List.map_map, Function.comp_def]
theorem evConv_ok (hT : TOk P T) {src dst : TypeId} {x : Operand} (hc : constOk T o = true) (ho : o.op = .convert src dst x) (h : evConv T st g src dst x k) : Yld E P st o g k := by
  unfold evConv at h
  obtain ⟨a', h, ha'⟩ := unc_ok h
  split at h
  · rename_i si di hsi hdi
    have hus := (hT _ _ hsi).under
    have hud := (hT _ _ hdi).under
    have key : ∀ (B : Base) (G : Gh) (w : World) (a : Act), Good E B G w → (∀ l, l ∈ opN x → RepL G w a l st) → g = true → Rep G.F w G.ι (a.eval x) a' := fun B G w a hgd hN hg =>
      ha' hg _ _ _ _ (evV_ok (T := T) hgd (constOk.at hc (ty := src) (x := x) (by simp [opcs, ho])) hN).1
    split at h
    · rename_i kd _ n hd
      rw [hd] at hud
      refine ⟨_, none, _, h, fun hg => .value fun B G w a hgd hN => ?_⟩
      have h1 := key B G w a hgd hN hg
      generalize hv : a.eval x = vx at *
      cases h1
      exact ⟨_, by simp only [execOp, ho, hv, Sem.run_bind, convert, run_underlying hus, run_underlying hud, Result.andThen_ok, Conv.intToInt, Sem.run_pure], .int _ _ _ (wrap_wrap _ _), trivial⟩
    · rename_i s hd
      rw [hd] at hud
      refine ⟨_, none, _, h, fun hg => .value fun B G w a hgd hN => ?_⟩
      have h1 := key B G w a hgd hN hg
      have h2 := h1
      generalize hv : a.eval x = vx at *
      cases h1
      exact ⟨_, by simp only [execOp, ho, hv, Sem.run_bind, convert, run_underlying hus, run_underlying hud, Result.andThen_ok, Sem.run_pure], h2, trivial⟩
    · rename_i sz xs hd
      obtain ⟨hesz, hel, s, hxs, h⟩ := h
      rw [hd] at hud
      split at hel
      · rename_i e he
        obtain ⟨ei, hei, hed⟩ := u8_of hel
        have hue := (hT _ _ hei).under
        rw [hed] at hue
        rw [he] at hus
        refine ⟨_, none, _, h, fun hg => .value fun B G w a hgd hN => ?_⟩
        have h1 := key B G w a hgd hN hg
        obtain ⟨ad, n, cap, hv, hn, hc', hm, hsz, hrow⟩ := h1.list_inv
        have hl : s.length ≤ maxLen := by rw [hxs] at hn; simp at hn; omega
        refine ⟨.string ⟨s.toArray⟩, ?_, .str _ _ hl, trivial⟩
        simp only [execOp, ho, hv, Sem.run_bind]
        have hrun : (convert src dst (.slice ad n cap)).run P w = .ok (.string ⟨s.toArray⟩) w := by
          rcases hrow with h0 | ⟨b, off, vals, hb, _, hcell, hrep⟩
          · have hs0 : s = [] := by rw [hxs] at h0; simpa using h0
            subst hs0
            rw [hxs] at hn
            simp at hn
            subst hn
            cases ad with
            | none => exact run_convert_bytes_nil (P := P) w src e hus hue 0 cap dst hud
            | some a0 =>
              rw [run_convert_bytes_string w src dst e _ 0 cap hus hue hud]
              have := run_bytesToString (P := P) w a0 0 cap [] (by simp [loadCells, loadCellsFrom])
              rw [this]; rfl
          · subst hb
            have := run_convert_bytes_arg (P := P) w src e hus hue b off n cap (s.map fun b => (b.toNat : Int)) (by rw [hn, hxs]; simp) (fun i hi => by
              have hi' : i < s.length := by rw [hn, hxs] at hi; simpa using hi
              have hxi : xs[i]? = some (byteAV s[i]) := by rw [hxs]; simp [List.getElem?_eq_getElem hi']
              obtain ⟨h2, _⟩ := hcell i _ 0 _ hxi (by simp [AV.cells, byteAV]; rfl)
              have h3 := hrep i _ 0 _ hxi (by simp [AV.cells, byteAV]; rfl)
              have hsz1 : sz = 1 := by
                have := hsz _ (List.mem_of_getElem? hxi)
                simpa [AV.cells, byteAV] using this.symm
              subst hsz1
              simp only [Nat.mul_one, Nat.add_zero] at h2
              rw [h2]
              generalize vals i 0 = u at h3
              cases h3
              simp [List.getD, hi']) dst hud
            rw [this]
            simp only [strOfNums, byte_back]
        rw [hrun]
        rfl
      · exact hel.elim
    · rename_i id off len szr hd
      obtain ⟨hel, h⟩ := h
      rw [hd] at hud
      split at hel
      · rename_i e he
        obtain ⟨ei, hei, hed⟩ := u8_of hel
        have hue := (hT _ _ hei).under
        rw [hed] at hue
        rw [he] at hus
        obtain ⟨ob, hob, h⟩ := optE_ok h
        split at h
        · rename_i t cs tg
          obtain ⟨s, ⟨hlen, hs⟩, h⟩ := h
          refine ⟨_, none, _, h, fun hg => .value fun B G w a hgd hN => ?_⟩
          have h1 := key B G w a hgd (fun l hl => hN l (List.mem_append_left _ hl)) hg
          have h2 := hN (.obj id) (by simp)
          simp only [RepL, hob, RepObj] at h2
          generalize hv : a.eval x = vx at *
          cases h1 with
          | row0 _ _ _ _ a0 =>
            have hs0 : s = [] := by simpa using hs.symm
            subst hs0
            refine ⟨.string ⟨([] : Bytes).toArray⟩, ?_, .str _ _ (by simp), trivial⟩
            simp only [execOp, ho, hv, Sem.run_bind]
            cases a0 with
            | none => rw [run_convert_bytes_nil (P := P) w src e hus hue 0 0 dst hud]; rfl
            | some a1 =>
              rw [run_convert_bytes_string w src dst e _ 0 0 hus hue hud, run_bytesToString (P := P) w a1 0 0 [] (by simp [loadCells, loadCellsFrom])]
              rfl
          | row _ _ _ _ cap _ g' hι hcap hm =>
          rcases h2 with ⟨h2, _⟩ | ⟨gg, i1, i2, i3, vals, fz, i4, i5, i6, i7⟩
          · subst h2
            have hl0 : len = 0 := by simp at hlen; omega
            subst hl0
            have hs0 : s = [] := by simpa using hs.symm
            subst hs0
            refine ⟨.string ⟨([] : Bytes).toArray⟩, ?_, .str _ _ (by simp), trivial⟩
            simp only [execOp, ho, hv, Sem.run_bind]
            rw [run_convert_bytes_string w src dst e _ 0 cap hus hue hud, run_bytesToString (P := P) w _ 0 cap [] (by simp [loadCells, loadCellsFrom])]
            rfl
          rw [i1] at hι
          injection hι with hι
          subst hι
          have hsl : s.length = len := by
            have := congrArg List.length hs
            simp at this; omega
          refine ⟨.string ⟨s.toArray⟩, ?_, .str _ _ (by omega), trivial⟩
          simp only [execOp, ho, hv, Sem.run_bind]
          have := run_convert_bytes_arg (P := P) w src e hus hue gg off len cap (s.map fun b => (b.toNat : Int)) (by simpa using hsl) (fun i hi => by
            have hi' : i < s.length := by omega
            have hc2 : cs[off + i]? = some (byteAV s[i]) := by
              have := congrArg (fun l => l[i]?) hs
              simpa [List.getElem?_take, List.getElem?_drop, hi, hi'] using this
            obtain ⟨v, v1, v2, v3⟩ := i7 _ _ hc2
            have v4 := v3.1
            cases v4
            simp [World.cell?, i4, v1, List.getD, hi']) dst hud
          rw [this]
          simp only [strOfNums, byte_back]
          rfl
        · exact h.elim
      · exact hel.elim
    · exact h.elim
  · exact h.elim
def evLen (T : Tab) (st : St) (g : Bool) (ty : TypeId) (x : Operand) (k : AV → Option Nat → List Loc → Prop) : Prop :=
  unc g (evV T st ty x) fun a => match T.at ty with
    | none => False
    | some ti => match ti.desc, a with
      | .string, .str s => k (.int .i64 (s.length : Int)) none (opN x)
      | .slice _, .list _ xs => k (.int .i64 (xs.length : Int)) none (opN x)
      | .slice _, .row _ _ n _ => k (.int .i64 (n : Int)) none (opN x)
      | .slice _, .rowR _ _ n _ => k (.int .i64 (n : Int)) none (opN x)
      | _, _ => False
theorem i64_len {n : Nat} (h : n ≤ maxLen) : IntKind.i64.wrap (n : Int) = n := by
  unfold maxLen at h
  exact IntWalk.i64_in _ (by omega)
theorem run_builtin {P : Program} {o : Oper} {b : Builtin} {args : Array Operand} {tys : Array TypeId} (ho : o.op = .call { callee := .builtin b, args := args, argTypes := tys }) (a : Act) (w : World) :
    (execOp a.eval o).run P w = (builtin b tys o.type (args.map fun | .const _ => true | _ => false) (args.map a.eval)).run P w := by
  simp only [execOp, ho, resolve, Sem.run_bind, Sem.run_pure, Result.andThen_ok, invoke]
  rfl
theorem evLen_ok (hT : TOk P T) {ty : TypeId} {x : Operand} (hc : constOk T o = true) (ho : o.op = .call { callee := .builtin .len, args := #[x], argTypes := #[ty] }) (h : evLen T st g ty x k) : Yld E P st o g k := by
  unfold evLen at h
  obtain ⟨a', h, ha'⟩ := unc_ok h
  split at h
  · exact h.elim
  · rename_i ti hti
    have hu := (hT _ _ hti).under
    split at h
    all_goals first
      | exact h.elim
      | (rename_i hd
         rw [hd] at hu
         refine ⟨_, none, _, h, fun hg => .value fun B G w a hgd hN => ?_⟩
         have h1 := ha' hg _ _ _ _ (evV_ok (T := T) hgd (constOk.at hc (ty := ty) (x := x) (by simp [opcs, ho])) hN).1
         rw [run_builtin ho]
         have he : (#[x] : Array Operand).map a.eval = #[a.eval x] := by simp
         rw [he]
         generalize hv : a.eval x = vx at *)
    · cases h1 with
      | str _ _ hl =>
      exact ⟨_, by simp only [builtin, Sem.run_bind, run_len_string w ty o.type _ hu, Result.andThen_ok, Sem.run_pure]; simp only [goInt, ByteArray.size, List.size_toArray], .int _ _ _ (i64_len hl), trivial⟩
    · obtain ⟨ad, n, cap, hv', hn, hc', hm, _, _⟩ := h1.list_inv
      subst hv'
      have hu' : P.underlying ty = some (.slice (P.elem ty)) := by simp [Program.elem, hu]
      refine ⟨_, by simp only [builtin, Sem.run_bind, run_len_slice w ty o.type _ _ _ hu', Result.andThen_ok, Sem.run_pure, goInt]; rfl, ?_, trivial⟩
      rw [hn]; exact .int _ _ _ (i64_len (by omega))
    · cases h1 with
      | row0 _ _ _ _ a0 =>
        have hu' : P.underlying ty = some (.slice (P.elem ty)) := by simp [Program.elem, hu]
        exact ⟨_, by simp only [builtin, Sem.run_bind, run_len_slice w ty o.type _ _ _ hu', Result.andThen_ok, Sem.run_pure, goInt], .int _ _ _ (i64_len (by omega)), trivial⟩
      | row _ _ _ _ cap _ g' hι hcap hm =>
      have hu' : P.underlying ty = some (.slice (P.elem ty)) := by simp [Program.elem, hu]
      exact ⟨_, by simp only [builtin, Sem.run_bind, run_len_slice w ty o.type _ _ _ hu', Result.andThen_ok, Sem.run_pure, goInt], .int _ _ _ (i64_len (by omega)), trivial⟩
    · cases h1 with
      | rowR _ _ _ _ cap _ g' hι hcap hm =>
      have hu' : P.underlying ty = some (.slice (P.elem ty)) := by simp [Program.elem, hu]
      exact ⟨_, by simp only [builtin, Sem.run_bind, run_len_slice w ty o.type _ _ _ hu', Result.andThen_ok, Sem.run_pure, goInt], .int _ _ _ (i64_len (by omega)), trivial⟩
def evMinMax (T : Tab) (st : St) (g : Bool) (mx : Bool) (tx ty : TypeId) (x y : Operand) (k : AV → Option Nat → List Loc → Prop) : Prop :=
  unc g (evV T st tx x) fun a => unc g (evV T st ty y) fun b => match a, b with
    | .int ka m, .int kb n => kindEq ka kb = true ∧ k (.int ka (bif mx then (if n > m then n else m) else (if n < m then n else m))) none (opN x ++ opN y)
    | _, _ => False
theorem evMinMax_ok {tx ty : TypeId} {x y : Operand} {mx : Bool} (hc : constOk T o = true) (ho : o.op = .call { callee := .builtin (bif mx then .max else .min), args := #[x, y], argTypes := #[tx, ty] })
    (h : evMinMax T st g mx tx ty x y k) : Yld E P st o g k := by
  unfold evMinMax at h
  obtain ⟨a', h, ha'⟩ := unc_ok h
  obtain ⟨b', h, hb'⟩ := unc_ok h
  split at h
  · obtain ⟨hk, h⟩ := h
    refine ⟨_, none, _, h, fun hg => .value fun B G w a hgd hN => ?_⟩
    have h1 := ha' hg _ _ _ _ (evV_ok (T := T) hgd (constOk.at hc (ty := tx) (x := x) (by simp [opcs, ho])) fun l hl => hN l (mem2.1 hl)).1
    have h2 := hb' hg _ _ _ _ (evV_ok (T := T) hgd (constOk.at hc (ty := ty) (x := y) (by simp [opcs, ho])) fun l hl => hN l (mem2.2 hl)).1
    have hk' := (by simpa [kindEq] using hk : _ = _)
    subst hk'
    rw [run_builtin ho]
    have he : (#[x, y] : Array Operand).map a.eval = #[a.eval x, a.eval y] := by simp
    rw [he]
    generalize a.eval x = vx at *
    generalize a.eval y = vy at *
    cases h1 with | int _ _ _ w1 => cases h2 with | int _ _ _ w2 =>
    cases mx with
    | true =>
      refine ⟨_, by simp [builtin, Builtin.max_, Builtin.max2]; rfl, ?_, trivial⟩
      simp only [cond_true]
      refine .int _ _ _ ?_
      split <;> assumption
    | false =>
      refine ⟨_, by simp [builtin, Builtin.min_, Builtin.min2]; rfl, ?_, trivial⟩
      simp only [cond_false]
      refine .int _ _ _ ?_
      split <;> assumption
  · exact h.elim
end
end Go.Pm
