/-
  Generic: the evaluation of a range over a function of two loop variables.
-/
import Derived.Test.YtkfoahoplndelaaGreatDoorRf3
namespace Go.Pm
open Go Go.RowKit
set_option linter.unusedVariables false
set_option linter.unusedSimpArgs false
theorem slotsTag_none {L : List Slot} (h : L.all (fun x => x.tag.isNone) = true) (t : Nat) : slotsTag L t = none := by
  induction L with
  | nil => rfl
  | cons x L ih =>
    simp only [List.all_cons, Bool.and_eq_true, Option.isNone_iff_eq_none] at h
    simp only [slotsTag]
    cases Nat.beq t x.t with
    | true => exact h.1
    | false => exact ih h.2
def objsC (n : Nat) (H : List AObj) : Prop := H.length = n ∧ ∀ (i : Nat) (x : SObj), H[i]? ≠ some (AObj.mp x)
section
variable {E : Env} {B : Base} {G G' : Gh} {W W' : World} {a a' : Act} {L : List Slot} {H : List AObj}
theorem Conc.slots (h : Conc E B G W a (St.of L H [])) (hL : L.all (fun x => x.tag.isNone) = true) (t : Nat) : RepSlot G W (a.tmps.getD t undef) (slotsAV L t) none := by
  have := h.rep (.slot t)
  simp only [RepL, St.of, slotsTag_none hL t] at this
  exact this
theorem Conc.join (hg : Good E B G W) (hsz : a.tmps.size = B.nt) (hdf : a.defers = B.df) (hs : ∀ t, RepSlot G W (a.tmps.getD t undef) (slotsAV L t) none) (hL : L.all (fun x => x.tag.isNone) = true) {B' : Base} (h : Conc E B' G W a' (St.of [] H [])) : Conc E B G W a (St.of L H []) :=
  ⟨hg, hsz, hdf, fun l => by
    cases l with
    | slot t => simp only [RepL, St.of, slotsTag_none hL t]; exact hs t
    | obj i => exact h.rep (.obj i)
    | tok i => exact h.rep (.tok i)⟩
end
def setS (p q : Nat) (x y : AV) (st : St) : St := (st.put (some p) x none st.H st.k).put (some q) y none st.H st.k
theorem Conc.lay {E : Env} {B : Base} {G : Gh} {W : World} {a : Act} {st : St} (h : Conc E B G W a st) (hdf : B.df = []) {p q : Nat} (hp : p < B.nt) (hq : q < B.nt) {v u : Value} {x y : AV} (hx : Rep G.F W G.ι v x) (hy : Rep G.F W G.ι u y) :
    Conc E B G W { tmps := (a.tmps.setIfInBounds p v).setIfInBounds q u, defers := [] } (setS p q x y st) := by
  have e : ({ tmps := (a.tmps.setIfInBounds p v).setIfInBounds q u, defers := [] } : Act) = (a.put (some p) v).put (some q) u := by
    have := h.defers
    rw [hdf] at this
    simp [Act.put, this]
  rw [e]
  refine ⟨h.good, by rw [size_put, size_put]; exact h.size, by rw [defers_put, defers_put]; exact h.defers, fun l => ?_⟩
  cases l with
  | slot t =>
    simp only [RepL, setS, St.put]
    by_cases h1 : t = q
    · subst h1
      rw [getD_put_same (by rw [size_put, h.size]; exact hq), upd_same, upd_same]
      exact ⟨hy, trivial⟩
    · rw [getD_put_other h1, upd_other _ _ h1, upd_other _ _ h1]
      by_cases h2 : t = p
      · subst h2
        rw [getD_put_same (by rw [h.size]; exact hp), upd_same, upd_same]
        exact ⟨hx, trivial⟩
      · rw [getD_put_other h2, upd_other _ _ h2, upd_other _ _ h2]
        exact h.rep (.slot t)
  | obj i => exact h.rep (.obj i)
  | tok i => exact h.rep (.tok i)
def KpR (E : Env) (b0 o0 : Nat) (W W' : World) : Prop := (∀ v, W.cell? ⟨b0, o0, none⟩ = some v → W'.cell? ⟨b0, o0, none⟩ = some v) ∧ (∀ b, b < E.GB → W'.heap[b]? = W.heap[b]?) ∧ W.heap.size ≤ W'.heap.size
theorem KpR.trans {E : Env} {b0 o0 : Nat} {A B C : World} (h : KpR E b0 o0 A B) (k : KpR E b0 o0 B C) : KpR E b0 o0 A C := ⟨fun v hv => k.1 v (h.1 v hv), fun b hb => (k.2.1 b hb).trans (h.2.1 b hb), Nat.le_trans h.2.2 k.2.2⟩
theorem range_ok {E : Env} {P : Program} {T : Tab} {rows : List Nat} (hT : TOk P T) (hm : P.follows .mixedOrders = true) {B : Base} (hdf : B.df = []) (hBf : ∀ b o, B.F b o → b < B.w.heap.size) (hGB : E.GB ≤ B.w.heap.size)
    {p q : Nat} {g : Operand} {assign body : Code} {Q : Exit → Act → World → Prop} {a : Act} {w : World} {G : Gh} {L : List Slot} (hL : L.all (fun x => x.tag.isNone) = true)
    {α σ τ : Type} {encs : α → Value × Value} {avs : α → AV × AV} {R : List α → α → Prop} {S Sp : List α → Prop} {gf : Nat} {v0 : Value} {b0 o0 : Nat}
    (hg : a.eval g = .func (.func gf) #[] #[v0]) (eg : ∀ args w, (callFunc gf args).run P w = .ok (.enter gf args) w) (hF0 : G.F b0 o0) (hc0 : (w.cell? ⟨b0, o0, none⟩).isSome = true)
    (hseq : SeqR P gf #[v0] (fun x => #[(encs x).1, (encs x).2]) (KpR E b0 o0) R S Sp w)
    (henc : ∀ pre x, R pre x → ∀ F w ι, Rep F w ι (encs x).1 (avs x).1 ∧ Rep F w ι (encs x).2 (avs x).2) (hp : p < B.nt) (hq : q < B.nt)
    (Inv : List α → σ → Prop) (Iz : List α → τ → Prop) (Hx : σ → List AObj) (Hz : τ → List AObj) (nb : Nat) (hHx : ∀ y, objsC nb (Hx y)) (hHz : ∀ z, objsC nb (Hz z)) (y0 : σ) (h0 : Inv [] y0)
    (hst : Conc E B G w a (St.of L (Hx y0) []))
    (hA1 : codeOk T B.nt assign = true) (hA2 : codeR assign = true) (hB1 : codeOk T B.nt body = true) (hB2 : codeR body = true)
    (hround : ∀ pre x y, R pre x → Inv pre y → evK ⟨E, P, T, rows, nb, 0⟩ assign (fun e s => e = .normal ∧ cellsOnly s ∧ s.H.length = nb ∧ evK ⟨E, P, T, rows, nb, 0⟩ body (fun e s' => match e with
        | .normal => ∃ y', Inv (pre ++ [x]) y' ∧ Gho E nb 0 s' (St.of [] (Hx y') [])
        | .ret => ∃ z, Iz (pre ++ [x]) z ∧ Gho E nb 0 s' (St.of [] (Hz z) [])
        | _ => False) s) (setS p q (avs x).1 (avs x).2 (St.of L (Hx y) [])))
    (hdone : ∀ xs y G1 W, S xs → Inv xs y → Conc E B G1 W a (St.of L (Hx y) []) → G1.O w.heap.size = none → w.heap.size < W.heap.size → W.heap[w.heap.size]? = some (.deferred (some [])) → Q .normal { a with defers := { target := .collected w.heap.size, args := #[] } :: a.defers } W)
    (hstop : ∀ pre z G1 W, Sp pre → Iz pre z → Conc E B G1 W a (St.of L (Hz z) []) → G1.O w.heap.size = none → w.heap.size < W.heap.size → W.heap[w.heap.size]? = some (.deferred (some [])) → Q .ret { a with defers := { target := .collected w.heap.size, args := #[] } :: a.defers } W) :
    (Code.rangeFunc g #[p, q] assign body).wp P Q a w := by
  refine (wpIn_wide (n := 0)).1 ?_
  have hBd : B.w.heap.size ≤ w.heap.size := hst.good.size
  have hOd : ∀ k, w.heap.size ≤ k → G.O k = none := fun k hk => by
    cases hh : G.O k with
    | none => rfl
    | some i => exact absurd (hst.good.own k i hh).1 (by omega)
  have kx : ∀ {y}, cellsOnly (St.of L (Hx y) []) := fun {y} => ⟨(hHx y).2, rfl⟩
  have kz : ∀ {z}, cellsOnly (St.of L (Hz z) []) := fun {z} => ⟨(hHz z).2, rfl⟩
  refine wpIn_range (R := R) (S := S) (Sp := Sp) (encs := fun x => #[(encs x).1, (encs x).2]) hg eg hseq (fun h k => h.trans k) (fun W l o o' hwl hl ho _ => ?_) (Below.refl _ _) (fun _ => rfl)
    (fun pre W => ∃ y G1, Inv pre y ∧ Conc E B G1 W a (St.of L (Hx y) []) ∧ (G1.O w.heap.size = none ∧ G1.O (w.heap.size + 1) = none) ∧ G1.F b0 o0 ∧ (W.cell? ⟨b0, o0, none⟩).isSome = true)
    (fun c pre W => c = .ret ∧ ∃ z G1, Iz pre z ∧ Conc E B G1 W a (St.of L (Hz z) []) ∧ G1.O w.heap.size = none)
    (fun pre x a' W => ∃ y s G1, Inv pre y ∧ Conc E B G1 W a' s ∧ (cellsOnly s ∧ s.H.length = nb ∧ evK ⟨E, P, T, rows, nb, 0⟩ body (fun e s' => match e with
        | .normal => ∃ y', Inv (pre ++ [x]) y' ∧ Gho E nb 0 s' (St.of [] (Hx y') [])
        | .ret => ∃ z, Iz (pre ++ [x]) z ∧ Gho E nb 0 s' (St.of [] (Hz z) [])
        | _ => False) s) ∧ (∀ t, RepSlot G1 W (a.tmps.getD t undef) (slotsAV L t) none) ∧ (G1.O w.heap.size = none ∧ G1.O (w.heap.size + 1) = none) ∧ G1.F b0 o0 ∧ (W.cell? ⟨b0, o0, none⟩).isSome = true)
    ?_ ?_ ?_ ⟨y0, G, h0, hst, ⟨hOd _ (Nat.le_refl _), hOd _ (Nat.le_succ _)⟩, hF0, hc0⟩ ?_ ?_ ?_ ?_
  · -- the captured variable's cell
    refine ⟨fun v hv => ?_, fun b hb => World.putObj_heap_other (by have := hst.good.gb; omega), by simp [World.putObj]⟩
    by_cases e : b0 = l
    · subst e
      cases o <;> simp_all [World.cell?, Obj.isCells]
    · rw [cell_congr (World.putObj_heap_other e)]; exact hv
  · -- turns
    rintro pre W W' row ⟨y, G1, i1, i2, ⟨i3, i4⟩, i5, i6⟩ hgr hr
    obtain ⟨G2, j1, j2, j3, j4, j5⟩ := i2.turn kx hgr hBf hGB (fun r e => ⟨Nat.le_trans hBd (hr r e).1, (hr r e).2⟩)
    obtain ⟨k1, k2⟩ := j4 _ _ i5 i6
    exact ⟨y, G2, i1, j1, ⟨j2 _ i3, j2 _ i4⟩, k1, by rw [k2]; exact i6⟩
  · rintro c pre W W' row ⟨rfl, z, G1, i1, i2, i3⟩ hgr hr
    obtain ⟨G2, j1, j2, _⟩ := i2.turn kz hgr hBf hGB (fun r e => ⟨Nat.le_trans hBd (hr r e).1, (hr r e).2⟩)
    exact ⟨rfl, z, G2, i1, j1, j2 _ i3⟩
  · rintro pre x a' _ W W' row ⟨y, s, G1, i1, i2, ⟨c1, c2, c3⟩, i7, ⟨i3, i4⟩, i5, i6⟩ hgr hr
    obtain ⟨G2, j1, j2, j3, j4, j5⟩ := i2.turn c1 hgr hBf hGB (fun r e => ⟨Nat.le_trans hBd (hr r e).1, (hr r e).2⟩)
    obtain ⟨k1, k2⟩ := j4 _ _ i5 i6
    exact ⟨y, s, G2, i1, j1, ⟨c1, c2, c3⟩, fun t => j5 _ _ (i7 t), ⟨j2 _ i3, j2 _ i4⟩, k1, by rw [k2]; exact i6⟩
  · -- the loop variables are laid
    rintro l pre x W K ⟨y, G1, i1, i2, ⟨i3, i4⟩, i5, i6⟩ hR hlt hK
    obtain ⟨r1, r2⟩ := henc pre x hR G1.F W G1.ι
    have hlay := (i2.start.lay (by show B.df = []; exact hdf) hp hq r1 r2)
    have hnb : (St.of L (Hx y) []).H.length = nb := (hHx y).1
    rw [hnb] at hlay
    have efold : ∀ (T : Array Value) (v u : Value), (#[p, q].zip #[v, u]).foldl (fun t (x : Nat × Value) => t.setIfInBounds x.1 x.2) T = (T.setIfInBounds p v).setIfInBounds q u := fun T v u => by simp [Array.zip, Array.zipWith, Array.zipWithMAux]
    rw [← efold] at hlay
    refine wpIn_mono (evKR_ok (C := ⟨E, P, T, rows, nb, 0⟩) hT hm (B := reb G1 W B.nt nb 0 B.df) rfl rfl assign _ _ hA1 hA2 (hround pre x y hR i1) (fun s h => by cases h.1) G1 W _ hlay) ?_
    rintro e a' W' ⟨s, G2, ⟨rfl, c1, c2, c3⟩, j1⟩
    have hold : ∀ k, k < W.heap.size → G1.O k = none → G2.O k = none ∧ W'.heap[k]? = W.heap[k]? := fun k hk hn => j1.good.old k hk hn
    have hx := j1.good.ext
    have hcell := hx.w _ _ i5
    refine hK a' W' ⟨(hold _ (by omega) i3).2, (hold _ hlt i4).2⟩ ⟨fun v hv => by rw [hcell]; exact hv, fun b hb => (j1.good.glob b hb).trans (i2.good.glob b hb).symm, j1.good.size⟩ ⟨y, s, G2, i1, ⟨i2.good.rebase j1.good, j1.size, j1.defers, j1.rep⟩, ⟨c1, c2, c3⟩, fun t => (i2.slots hL t).ext hx, ⟨(hold _ (by omega) i3).1, (hold _ hlt i4).1⟩, hx.F _ _ i5, by rw [hcell]; exact i6⟩
  · -- the body
    rintro l pre x a' W ⟨y, s, G1, i1, i2, ⟨c1, c2, c3⟩, i7, ⟨i3, i4⟩, i5, i6⟩ hR hlt
    have hs := i2.start
    have hk0 : s.k.length = 0 := by rw [c1.2]; rfl
    rw [c2, hk0] at hs
    refine wpIn_mono (evKR_ok (C := ⟨E, P, T, rows, nb, 0⟩) hT hm (B := reb G1 W B.nt nb 0 B.df) rfl rfl body _ _ hB1 hB2 c3 (fun s h => h) G1 W _ hs) ?_
    rintro e a3 W3 ⟨s', G2, hk, j1⟩
    have hold : ∀ k, k < W.heap.size → G1.O k = none → G2.O k = none ∧ W3.heap[k]? = W.heap[k]? := fun k hk hn => j1.good.old k hk hn
    have key : ∀ (H : List AObj), Gho E nb 0 s' (St.of [] H []) → ∃ G3, Conc E B G3 W3 a (St.of L H []) ∧ (G3.O w.heap.size = none ∧ G3.O (w.heap.size + 1) = none) ∧ G3.F b0 o0 ∧ W3.cell? ⟨b0, o0, none⟩ = W.cell? ⟨b0, o0, none⟩ := fun H hgo => by
      obtain ⟨G3, j2⟩ := hgo (reb G1 W B.nt nb 0 B.df) G2 W3 a3 rfl rfl j1
      have hx := j2.good.ext
      have hold3 : ∀ k, k < W.heap.size → G1.O k = none → G3.O k = none ∧ W3.heap[k]? = W.heap[k]? := fun k hk hn => j2.good.old k hk hn
      exact ⟨G3, Conc.join (i2.good.rebase j2.good) hst.size hst.defers (fun t => (i7 t).ext hx) hL j2, ⟨(hold3 _ (by omega) i3).1, (hold3 _ hlt i4).1⟩, hx.F _ _ i5, hx.w _ _ i5⟩
    cases e with
    | normal =>
      obtain ⟨y', k1, k2⟩ := hk
      obtain ⟨G3, m1, m2, m3, m4⟩ := key _ k2
      exact ⟨⟨(hold _ (by omega) i3).2, (hold _ hlt i4).2⟩, ⟨fun v hv => by rw [m4]; exact hv, fun b hb => (j1.good.glob b hb).trans (i2.good.glob b hb).symm, j1.good.size⟩, y', G3, k1, m1, m2, m3, by rw [m4]; exact i6⟩
    | ret =>
      obtain ⟨z, k1, k2⟩ := hk
      obtain ⟨G3, m1, m2, m3, m4⟩ := key _ k2
      exact ⟨⟨(hold _ (by omega) i3).2, (hold _ hlt i4).2⟩, rfl, z, G3, k1, m1, m2.1⟩
    | exit i => exact hk.elim
    | goto i => exact hk.elim
    | panic i => exact hk.elim
    | outgrown => exact hk.elim
  · rintro xs W hS ⟨y, G1, i1, i2, ⟨i3, _⟩, _⟩ hK
    exact hdone xs y G1 W hS i1 i2 i3 (Array.getElem?_eq_some_iff.1 hK).1 hK
  · rintro c pre W hSp ⟨rfl, z, G1, i1, i2, i3⟩ hK
    exact wpIn_ret (hstop pre z G1 W hSp i1 i2 i3 (Array.getElem?_eq_some_iff.1 hK).1 hK)
end Go.Pm
