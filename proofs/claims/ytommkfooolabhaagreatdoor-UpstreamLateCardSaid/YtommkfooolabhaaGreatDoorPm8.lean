/-
  Generic: how memory may turn: what stays true of it. New objects, new rows, stores.
-/
import Derived.Test.YtommkfooolabhaaGreatDoorPm7
import Derived.Laws.IdiomStrings
namespace Go.Pm
open Go Go.RowKit
set_option linter.unusedVariables false
set_option linter.unusedSimpArgs false
section
variable {E : Env} {B : Base} {G G' : Gh} {w w' : World}
theorem Good.step (h : Good E B G w) (hs : w.heap.size ≤ w'.heap.size) (hblk : ∀ b, b < w.heap.size → G.O b = none → w'.heap[b]? = w.heap[b]?)
    (hcell : ∀ b o, G.F b o → w'.cell? ⟨b, o, none⟩ = w.cell? ⟨b, o, none⟩) (hF : ∀ b o, G.F b o → G'.F b o)
    (hF' : ∀ b o, G'.F b o → b < w'.heap.size ∧ (G.F b o ∨ w.heap.size ≤ b ∨ G.O b ≠ none)) (hO : ∀ b i, G'.O b = some i → b < w'.heap.size ∧ (w.heap.size ≤ b ∨ G.O b ≠ none))
    (hos : w'.os = w.os) (htape : w'.tape = w.tape) (hout : w'.output = w.output) (hx : Ext G w G' w') : Good E B G' w' := by
  have hown : ∀ b i, G'.O b = some i → E.GB ≤ b := fun b i hi => by
    rcases (hO b i hi).2 with h1 | h1
    · have := h.gb; omega
    · cases hh : G.O b with
      | none => exact absurd hh h1
      | some j => exact (h.own b j hh).2
  refine ⟨fun b o hb => (hF' b o hb).1, fun b i hi => ⟨(hO b i hi).1, hown b i hi⟩, Nat.le_trans h.size hs, fun b hb hn => ?_, fun b o hb => ?_, fun b o hb => ?_, hos.trans h.os, htape.trans h.tape, hout.trans h.output, fun b hb => ?_, Nat.le_trans h.gb hs, fun i g hi => ⟨(h.ids i g hi).1, hx.ι _ _ (h.ids i g hi).2⟩, fun i r hi => ⟨(h.toks i r hi).1, hx.κ _ _ (h.toks i r hi).2⟩, fun g n x => hx.gr g n (h.grow g n x)⟩
  · obtain ⟨h1, h2⟩ := h.old b hb hn
    have hlt : b < w.heap.size := Nat.lt_of_lt_of_le hb h.size
    refine ⟨?_, (hblk b hlt h1).trans h2⟩
    cases hh : G'.O b with
    | none => rfl
    | some i =>
      rcases (hO b i hh).2 with h3 | h3
      · omega
      · exact absurd h1 h3
  · obtain ⟨h1, h2⟩ := h.keep b o hb
    exact ⟨hF _ _ h1, (hcell _ _ h1).trans h2⟩
  · rcases (hF' b o hb).2 with h1 | h1 | h1
    · exact h.new b o h1
    · exact .inr (.inl (Nat.le_trans h.size h1))
    · by_cases hb' : b < B.w.heap.size
      · refine .inr (.inr fun hn => h1 (h.old b hb' hn).1)
      · exact .inr (.inl (by omega))
  · rw [hblk b (Nat.lt_of_lt_of_le hb h.gb) ?_]
    · exact h.glob b hb
    · cases hh : G.O b with
      | none => rfl
      | some i => have := (h.own b i hh).2; omega
theorem RepObj.keep {i : Nat} {c : Option AObj} (h : RepObj G w i c) (hx : Ext G w G' w') (hι : G.ι i = none → G'.ι i = none)
    (hO : ∀ g, G.O g = some (.inl i) → G'.O g = some (.inl i) ∧ w'.heap[g]? = w.heap[g]? ∧ ∀ x, G'.F g x → G.F g x) : RepObj G' w' i c := by
  cases c with
  | none => exact hι h
  | some o =>
    cases o with
    | dead => trivial
    | mp es =>
      obtain ⟨g, h1, h2, h3, h4⟩ := h
      obtain ⟨o1, o2, o3⟩ := hO g h2
      exact ⟨g, hx.ι _ _ h1, o1, fun x hh => h3 x (o3 x hh), h4.keep hx.F hx.w hO o2⟩
    | cells t cs tg =>
      rcases h with h0 | ⟨g, h1, h2, h3, vals, fz, h4, h5, h6, h7⟩
      · exact .inl ⟨h0.1, hι h0.2⟩
      obtain ⟨o1, o2, o3⟩ := hO g h2
      exact .inr ⟨g, hx.ι _ _ h1, o1, fun x hh => h3 x (o3 x hh), vals, fz, o2.trans h4, h5, h6, fun j c hc => let ⟨v, a, b, d⟩ := h7 j c hc; ⟨v, a, b, d.ext hx⟩⟩
theorem RepTok.keep {i : Nat} {c : Option Nat} (h : RepTok G w i c) (hx : Ext G w G' w') (hκ : G.κ i = none → G'.κ i = none)
    (hO : ∀ g, G.O g = some (.inr i) → G'.O g = some (.inr i) ∧ w'.heap[g]? = w.heap[g]? ∧ ∀ x, G'.F g x → G.F g x) : RepTok G' w' i c := by
  cases c with
  | none => exact hκ h
  | some o =>
    match o, h with
    | 0, _ => trivial
    | _ + 2, ⟨g, lo, h1⟩ => exact ⟨g, lo, hx.κ _ _ h1⟩
    | 1, ⟨g, lo, hi, h1, h2⟩ =>
      refine ⟨g, lo, hi, hx.κ _ _ h1, fun hlt => ?_⟩
      obtain ⟨k1, k2, vals, t, fz, k3, k4, k5⟩ := h2 hlt
      obtain ⟨o1, o2, o3⟩ := hO g k1
      exact ⟨o1, fun x hx hh => k2 x hx (o3 x hh), vals, t, fz, o2.trans k3, k4, k5⟩
theorem cell_congr {b o : Nat} (h : w'.heap[b]? = w.heap[b]?) : w'.cell? ⟨b, o, none⟩ = w.cell? ⟨b, o, none⟩ := by simp [World.cell?, h]
theorem cell_at {g o : Nat} {vals : Array Value} {t : TypeId} {fz : Nat × Nat} (h : w.heap[g]? = some (.cells vals t fz)) : w.cell? ⟨g, o, none⟩ = vals[o]? := by simp [World.cell?, h]
structure Grown1 (w w' : World) (o : Obj) : Prop where
  size : w'.heap.size = w.heap.size + 1
  old : ∀ b, b < w.heap.size → w'.heap[b]? = w.heap[b]?
  new : w'.heap[w.heap.size]? = some o
  os : w'.os = w.os
  tape : w'.tape = w.tape
  output : w'.output = w.output
theorem grown1_alloc (w : World) (o : Obj) : Grown1 w (w.alloc o) o :=
  ⟨by simp, fun b hb => Below.heap_alloc w o b hb, heap_alloc_new w o, rfl, rfl, rfl⟩
def setI {α : Type} (f : Nat → Option α) (i : Nat) (v : α) : Nat → Option α := fun j => if j = i then some v else f j
theorem setI_same {α : Type} (f : Nat → Option α) (i : Nat) (v : α) : setI f i v i = some v := by simp [setI]
theorem setI_other {α : Type} (f : Nat → Option α) {i j : Nat} (v : α) (h : j ≠ i) : setI f i v j = f j := by simp [setI, h]
theorem new_obj (h : Good E B G w) {id : Nat} (hid : G.ι id = none) {vals : Array Value} {t : TypeId} {fz : Nat × Nat} (hw : Grown1 w w' (.cells vals t fz)) (hfz : ∀ i, i < vals.size → ¬ inFz fz i)
    {cs : List AV} {tg : List (Nat × Nat)} (hl : cs.length ≤ vals.size) (hr : ∀ (j : Nat) (c : AV), cs[j]? = some c → ∃ v, vals[j]? = some v ∧ v.oneCell' = true ∧ RepSlot G w v c (tg.lookup j)) :
    let G1 : Gh := { G with ι := setI G.ι id w.heap.size, O := setI G.O w.heap.size (.inl id) }
    Good E B G1 w' ∧ FrH G w G1 w' [.obj id] ∧ RepObj G1 w' id (some (.cells t cs tg)) ∧ G1.ι id = some w.heap.size := by
  intro G1
  have hne : ∀ b i, G.O b = some i → b ≠ w.heap.size := fun b i hi => Nat.ne_of_lt (h.own b i hi).1
  have hx : Ext G w G1 w' := ⟨fun _ _ x => x, fun i g hi => by
    have : i ≠ id := fun e => by rw [e, hid] at hi; cases hi
    show setI G.ι id w.heap.size i = some g
    rw [setI_other _ _ this]; exact hi, fun _ _ x => x, fun b o hb => cell_congr (hw.old b (h.fin b o hb)), grows_old hw.old⟩
  refine ⟨h.step (by rw [hw.size]; omega) (fun b hb _ => hw.old b hb) (fun b o hb => hx.w b o hb) (fun _ _ x => x) (fun b o hb => ⟨by rw [hw.size]; have := h.fin b o hb; omega, .inl hb⟩) (fun b i hi => ?_) hw.os hw.tape hw.output hx, ⟨hx, fun i c hi hc => ?_, fun i c _ hc => ?_⟩, ?_, setI_same ..⟩
  · by_cases hb : b = w.heap.size
    · subst hb; exact ⟨by rw [hw.size]; omega, .inl (Nat.le_refl _)⟩
    · have hi' : G.O b = some i := by rw [← hi]; exact (setI_other _ _ hb).symm
      exact ⟨by rw [hw.size]; have := (h.own b i hi').1; omega, .inr (by rw [hi']; simp)⟩
  · have hne' : i ≠ id := fun e => hi (by simp [e])
    refine hc.keep hx (fun hn => by show setI _ _ _ i = none; rw [setI_other _ _ hne']; exact hn) fun g hg => ⟨?_, hw.old g (h.own g _ hg).1, fun _ x => x⟩
    show setI _ _ _ g = _
    rw [setI_other _ _ (hne g _ hg)]; exact hg
  · refine hc.keep hx (fun x => x) fun g hg => ⟨?_, hw.old g (h.own g _ hg).1, fun _ x => x⟩
    show setI _ _ _ g = _
    rw [setI_other _ _ (hne g _ hg)]; exact hg
  · refine .inr ⟨w.heap.size, setI_same .., setI_same .., fun x hx' => ?_, vals, fz, hw.new, hfz, hl, fun j c hc => let ⟨v, a, b, d⟩ := hr j c hc; ⟨v, a, b, d.ext hx⟩⟩
    exact absurd (h.fin _ _ hx') (Nat.lt_irrefl _)
theorem new_row (h : Good E B G w) {i : Nat} (hi : G.κ i = none) {vals : Array Value} {t : TypeId} {fz : Nat × Nat} (hw : Grown1 w w' (.cells vals t fz)) (hfz : ∀ i, i < vals.size → ¬ inFz fz i)
    {sz cap : Nat} (hsp : 0 < sz) {xs : List AV} (hcap : xs.length ≤ cap) (hm : cap ≤ maxLen) (hl : cap * sz ≤ vals.size) (hsz : ∀ e, e ∈ xs → e.cells.length = sz)
    (hr : ∀ (i : Nat) (e : AV) (j : Nat) (c : AV), xs[i]? = some e → e.cells[j]? = some c → ∃ v, vals[i * sz + j]? = some v ∧ v.oneCell' = true ∧ Rep G.F w (fun _ => none) v c) :
    let G1 : Gh := { F := fun b o => G.F b o ∨ (b = w.heap.size ∧ o < xs.length * sz), ι := G.ι, κ := setI G.κ i (w.heap.size, xs.length * sz, cap * sz), O := setI G.O w.heap.size (.inr i) }
    Good E B G1 w' ∧ FrH G w G1 w' [.tok i] ∧ RepTok G1 w' i (some 1) ∧ (cap = xs.length → RepTok G1 w' i (some 2)) ∧ RepSlot G1 w' (.slice (some ⟨w.heap.size, 0, none⟩) xs.length cap) (.list sz xs) (some i) := by
  intro G1
  have hne : ∀ b i, G.O b = some i → b ≠ w.heap.size := fun b i hi => Nat.ne_of_lt (h.own b i hi).1
  have hx : Ext G w G1 w' := ⟨fun _ _ x => .inl x, fun _ _ x => x, fun j r hj => by
    have : j ≠ i := fun e => by rw [e, hi] at hj; cases hj
    show setI _ _ _ j = some r
    rw [setI_other _ _ this]; exact hj, fun b o hb => cell_congr (hw.old b (h.fin b o hb)), grows_old hw.old⟩
  refine ⟨h.step (by rw [hw.size]; omega) (fun b hb _ => hw.old b hb) (fun b o hb => hx.w b o hb) (fun _ _ x => .inl x) (fun b o hb => ?_) (fun b j hj => ?_) hw.os hw.tape hw.output hx, ⟨hx, fun j c _ hc => ?_, fun j c hj hc => ?_⟩, ?_, fun he => ⟨w.heap.size, xs.length * sz, by show setI G.κ i (w.heap.size, xs.length * sz, cap * sz) i = _; rw [setI_same, he]⟩, ?_, ?_⟩
  · rcases hb with hb | ⟨hb, _⟩
    · exact ⟨by rw [hw.size]; have := h.fin b o hb; omega, .inl hb⟩
    · subst hb; exact ⟨by rw [hw.size]; omega, .inr (.inl (Nat.le_refl _))⟩
  · by_cases hb : b = w.heap.size
    · subst hb; exact ⟨by rw [hw.size]; omega, .inl (Nat.le_refl _)⟩
    · have hj' : G.O b = some j := by rw [← hj]; exact (setI_other _ _ hb).symm
      exact ⟨by rw [hw.size]; have := (h.own b j hj').1; omega, .inr (by rw [hj']; simp)⟩
  · refine hc.keep hx (fun x => x) fun g hg => ⟨?_, hw.old g (h.own g _ hg).1, fun x hx' => ?_⟩
    · show setI _ _ _ g = _
      rw [setI_other _ _ (hne g _ hg)]; exact hg
    · rcases hx' with hx' | ⟨hx', _⟩
      · exact hx'
      · exact absurd hx' (hne g _ hg)
  · have hne' : j ≠ i := fun e => hj (by simp [e])
    refine hc.keep hx (fun hn => by show setI _ _ _ j = none; rw [setI_other _ _ hne']; exact hn) fun g hg => ⟨?_, hw.old g (h.own g _ hg).1, fun x hx' => ?_⟩
    · show setI _ _ _ g = _
      rw [setI_other _ _ (hne g _ hg)]; exact hg
    · rcases hx' with hx' | ⟨hx', _⟩
      · exact hx'
      · exact absurd hx' (hne g _ hg)
  · refine ⟨w.heap.size, xs.length * sz, cap * sz, setI_same .., fun _ => ⟨setI_same .., fun x hx' hF => ?_, vals, t, fz, hw.new, hl, fun x _ hx2 => hfz x (by omega)⟩⟩
    rcases hF with hF | ⟨_, hF⟩
    · exact absurd (h.fin _ _ hF) (Nat.lt_irrefl _)
    · omega
  · have hvals : ∃ vf : Nat → Nat → Value, ∀ (i : Nat) (e : AV) (j : Nat) (c : AV), xs[i]? = some e → e.cells[j]? = some c → vals[i * sz + j]? = some (vf i j) ∧ (vf i j).oneCell' = true ∧ Rep G.F w (fun _ => none) (vf i j) c := by
      refine ⟨fun i j => vals.getD (i * sz + j) undef, fun i e j c he hc => ?_⟩
      obtain ⟨v, v1, v2, v3⟩ := hr i e j c he hc
      have : vals.getD (i * sz + j) undef = v := by rw [Array.getD_eq_getD_getElem?, v1]; rfl
      simp only [this]
      exact ⟨v1, v2, v3⟩
    obtain ⟨vf, hvf⟩ := hvals
    refine .list _ _ 0 _ _ _ _ vf rfl hcap hm hsz (fun j hj => .inr ⟨rfl, by omega⟩) (fun i e j c he hc => ?_) (fun i e j c he hc => ?_)
    · obtain ⟨a1, a2, _⟩ := hvf i e j c he hc
      rw [cell_at hw.new, Nat.zero_add]; exact ⟨a1, a2⟩
    · exact (hvf i e j c he hc).2.2.mono hx.F hx.w _ (fun _ _ h => by cases h)
  · refine .inl ⟨sz, xs, xs.length, cap, w.heap.size, xs.length * sz, cap * sz, some ⟨w.heap.size, 0, none⟩, rfl, rfl, setI_same .., rfl, hcap, hm, ?_⟩
    rcases Nat.lt_or_ge (xs.length * sz) (cap * sz) with hlt | hge
    · exact .inr ⟨hlt, 0, rfl, by omega, by omega⟩
    · exact .inl (Nat.le_antisymm hcap (Nat.le_of_mul_le_mul_right hge hsp))
structure Wrote (w w' : World) (g lo : Nat) (us : List Value) : Prop where
  size : w'.heap.size = w.heap.size
  old : ∀ b, b ≠ g → w'.heap[b]? = w.heap[b]?
  os : w'.os = w.os
  tape : w'.tape = w.tape
  output : w'.output = w.output
  new : ∀ vals t fz, w.heap[g]? = some (.cells vals t fz) → ∃ vals', w'.heap[g]? = some (.cells vals' t fz) ∧ vals'.size = vals.size ∧ ∀ x, vals'[x]? = if lo ≤ x ∧ x < lo + us.length then us[x - lo]? else vals[x]?
theorem run_stores {P : Program} (g o : Nat) : ∀ (us : List Value) (i : Nat) (w : World) (vals : Array Value) (t : TypeId) (fz : Nat × Nat), w.heap[g]? = some (.cells vals t fz) →
    (∀ x, o + i ≤ x → x < o + i + us.length → x < vals.size ∧ ¬ inFz fz x) → (∀ u, u ∈ us → u.oneCell' = true) → ∃ w', (storeCells ⟨g, o, none⟩ us i).run P w = .ok () w' ∧ Wrote w w' g (o + i) us := by
  intro us
  induction us with
  | nil =>
    intro i w vals t fz hw _ _
    refine ⟨w, rfl, rfl, fun _ _ => rfl, rfl, rfl, rfl, fun vals t fz h => ⟨vals, h, rfl, fun x => ?_⟩⟩
    rw [if_neg (by intro h; simp at h <;> omega)]
  | cons u us ih =>
    intro i w vals t fz hw hx h1
    have h0 := hx (o + i) (Nat.le_refl _) (by simp)
    have hc : w.cell? ⟨g, o + i, none⟩ = some vals[o + i] := by rw [cell_at hw]; exact Array.getElem?_eq_getElem h0.1
    have hf : w.frozen? ⟨g, o + i, none⟩ = false := by
      have := h0.2
      simp only [inFz] at this
      simp only [World.frozen?, hw]
      obtain ⟨f1, f2⟩ := fz
      simp at this ⊢
      omega
    have hst : (store ((⟨g, o, none⟩ : Addr).add i) u).run P w = .ok () (w.setCell ⟨g, o + i, none⟩ u) := by
      rw [add_plain, run_store P w _ u _ (h1 u (List.mem_cons_self ..)), hc]
      simp [hf]
    have hw1 : (w.setCell ⟨g, o + i, none⟩ u).heap[g]? = some (.cells (vals.setIfInBounds (o + i) u) t fz) := by
      simp [World.setCell, Array.getElem?_modify, hw]
    obtain ⟨w', hr, hwr⟩ := ih (i + 1) (w.setCell ⟨g, o + i, none⟩ u) _ t fz hw1 (fun x a b => by
      have := hx x (by omega) (by simp; omega)
      simpa using this) (fun v hv => h1 v (List.mem_cons_of_mem _ hv))
    refine ⟨w', by simp only [storeCells, Sem.run_bind, hst, Result.andThen_ok, hr], by rw [hwr.size]; simp, fun b hb => ?_, hwr.os, hwr.tape, hwr.output, fun vals2 t2 fz2 h2 => ?_⟩
    · rw [hwr.old b hb]; exact Below.heap_setCell _ _ _ _ (by simpa using hb)
    · rw [hw] at h2
      injection h2 with h2
      injection h2 with e1 e2 e3
      subst e1 e2 e3
      obtain ⟨vals', n1, n2, n3⟩ := hwr.new _ _ _ hw1
      refine ⟨vals', n1, by simpa using n2, fun x => ?_⟩
      rw [n3]
      by_cases hx0 : x = o + i
      · subst hx0
        rw [if_neg (by omega), if_pos (by simp)]
        simp [h0.1]
      · by_cases hin : o + (i + 1) ≤ x ∧ x < o + (i + 1) + us.length
        · rw [if_pos hin, if_pos (by simp; omega)]
          rw [show x - (o + i) = (x - (o + (i + 1))) + 1 by omega]
          rfl
        · rw [if_neg hin, if_neg (by simp; omega)]
          simp [Ne.symm hx0]
def splice (cs : List AV) (off : Nat) (xs : List AV) : List AV := cs.take off ++ (xs ++ cs.drop (off + xs.length))
theorem splice_get (cs : List AV) (off : Nat) (xs : List AV) (h : off + xs.length ≤ cs.length) (j : Nat) : (splice cs off xs)[j]? = if off ≤ j ∧ j < off + xs.length then xs[j - off]? else cs[j]? := by
  have hl : (cs.take off).length = off := by simp; omega
  unfold splice
  rcases Nat.lt_or_ge j off with h1 | h1
  · rw [List.getElem?_append_left (by omega), if_neg (by omega), List.getElem?_take, if_pos h1]
  · rw [List.getElem?_append_right (by omega), hl]
    rcases Nat.lt_or_ge j (off + xs.length) with h2 | h2
    · rw [List.getElem?_append_left (by omega), if_pos ⟨h1, h2⟩]
    · rw [List.getElem?_append_right (by omega), if_neg (by omega), List.getElem?_drop]
      congr 1; omega
theorem splice_len (cs : List AV) (off : Nat) (xs : List AV) (h : off + xs.length ≤ cs.length) : (splice cs off xs).length = cs.length := by
  unfold splice; simp; omega
def tagSplice (tg : List (Nat × Nat)) (off n : Nat) (tag : Option Nat) : List (Nat × Nat) :=
  (match tag with | some i => [(off, i)] | none => []) ++ tg.filter fun p => Nat.blt p.1 off || Nat.ble (off + n) p.1
theorem lookup_filter (tg : List (Nat × Nat)) (off n j : Nat) (h : ¬ (off ≤ j ∧ j < off + n)) : (tg.filter fun p => Nat.blt p.1 off || Nat.ble (off + n) p.1).lookup j = tg.lookup j := by
  induction tg with
  | nil => rfl
  | cons p tg ih =>
    obtain ⟨a, b⟩ := p
    rw [List.filter_cons]
    by_cases hp : (Nat.blt a off || Nat.ble (off + n) a) = true
    · simp only [hp, if_true, List.lookup_cons, ih]
    · simp only [hp, List.lookup_cons]
      have : (j == a) = false := by
        simp only [beq_eq_false_iff_ne]
        rintro rfl
        apply hp
        simp only [Bool.or_eq_true, Nat.blt_eq, Nat.ble_eq]
        omega
      simp only [this]
      simpa using ih
theorem lookup_filter_none (tg : List (Nat × Nat)) (off n j : Nat) (h : off ≤ j ∧ j < off + n) : (tg.filter fun p => Nat.blt p.1 off || Nat.ble (off + n) p.1).lookup j = none := by
  induction tg with
  | nil => rfl
  | cons p tg ih =>
    obtain ⟨a, b⟩ := p
    rw [List.filter_cons]
    by_cases hp : (Nat.blt a off || Nat.ble (off + n) a) = true
    · simp only [hp, if_true, List.lookup_cons]
      have : (j == a) = false := by
        simp only [beq_eq_false_iff_ne]
        rintro rfl
        simp only [Bool.or_eq_true, Nat.blt_eq, Nat.ble_eq] at hp
        omega
      simp only [this]
      exact ih
    · simp only [hp]
      simpa using ih
theorem write_obj (h : Good E B G w) {id g : Nat} (hid : G.ι id = some g) {t : TypeId} {cs : List AV} {tg : List (Nat × Nat)} (hobj : RepObj G w id (some (.cells t cs tg))) {off : Nat} {us : List Value} {xs : List AV} {tag : Option Nat}
    (hw : Wrote w w' g off us) (hl : us.length = xs.length) (hle : off + xs.length ≤ cs.length) (hpos : 0 < xs.length) (hone : ∀ u, u ∈ us → u.oneCell' = true)
    (hr : ∀ (j : Nat) (u : Value) (c : AV), us[j]? = some u → xs[j]? = some c → RepSlot G w u c (if j = 0 then tag else none)) (htag : tag = none ∨ xs.length = 1) :
    Good E B G w' ∧ FrH G w G w' [.obj id] ∧ RepObj G w' id (some (.cells t (splice cs off xs) (tagSplice tg off xs.length tag))) := by
  obtain ⟨g', i1, i2, i3, vals, fz, i4, i5, i6, i7⟩ := hobj.resolve_left (by rintro ⟨h0, _⟩; rw [h0] at hle; simp only [List.length_nil] at hle; omega)
  rw [hid] at i1
  injection i1 with i1
  subst i1
  have hcell : ∀ b o, G.F b o → w'.cell? ⟨b, o, none⟩ = w.cell? ⟨b, o, none⟩ := fun b o hb => cell_congr (hw.old b (fun e => i3 o (e ▸ hb)))
  have hx : Ext G w G w' := ⟨fun _ _ x => x, fun _ _ x => x, fun _ _ x => x, hcell, (hw.new _ _ _ i4).elim fun _ h => grows_one hw.old i4 h.1 h.2.1⟩
  refine ⟨h.step (by rw [hw.size]; exact Nat.le_refl _) (fun b _ hn => hw.old b (fun e => by rw [e, i2] at hn; cases hn)) hcell (fun _ _ x => x) (fun b o hb => ⟨by rw [hw.size]; exact h.fin b o hb, .inl hb⟩) (fun b i hi => ⟨by rw [hw.size]; exact (h.own b i hi).1, .inr (by rw [hi]; simp)⟩) hw.os hw.tape hw.output hx, ⟨hx, fun i c hi hc => ?_, fun i c _ hc => ?_⟩, ?_⟩
  · refine hc.keep hx (fun x => x) fun g2 hg2 => ⟨hg2, hw.old g2 (fun e => ?_), fun _ x => x⟩
    rw [e, i2] at hg2
    injection hg2 with hg2
    injection hg2 with hg2
    exact hi (by simp [hg2])
  · refine hc.keep hx (fun x => x) fun g2 hg2 => ⟨hg2, hw.old g2 (fun e => ?_), fun _ x => x⟩
    rw [e, i2] at hg2
    injection hg2 with hg2
    cases hg2
  · obtain ⟨vals', n1, n2, n3⟩ := hw.new _ _ _ i4
    refine .inr ⟨g, hid, i2, i3, vals', fz, n1, by rw [n2]; exact i5, by rw [n2, splice_len _ _ _ hle]; exact i6, fun j c hc => ?_⟩
    rw [splice_get _ _ _ hle] at hc
    rw [n3, hl]
    by_cases hin : off ≤ j ∧ j < off + xs.length
    · rw [if_pos hin] at hc ⊢
      have hj : j - off < us.length := by omega
      refine ⟨us[j - off], List.getElem?_eq_getElem hj, hone _ (List.getElem_mem hj), ?_⟩
      have h1 := hr (j - off) _ _ (List.getElem?_eq_getElem hj) hc
      have htl : (tagSplice tg off xs.length tag).lookup j = if j - off = 0 then tag else none := by
        unfold tagSplice
        cases tag with
        | none =>
          rw [List.nil_append, lookup_filter_none _ _ _ _ hin]
          split <;> rfl
        | some i =>
          have hx1 : xs.length = 1 := htag.resolve_left (by simp)
          have : j = off := by omega
          subst this
          simp
      rw [htl]
      exact h1.ext hx
    · rw [if_neg hin] at hc ⊢
      obtain ⟨v, v1, v2, v3⟩ := i7 j c hc
      refine ⟨v, v1, v2, ?_⟩
      have htl : (tagSplice tg off xs.length tag).lookup j = tg.lookup j := by
        unfold tagSplice
        cases tag with
        | none => rw [List.nil_append, lookup_filter _ _ _ _ hin]
        | some i =>
          have hx1 : xs.length = 1 := htag.resolve_left (by simp)
          have : (j == off) = false := by simp; omega
          simp only [List.singleton_append, List.lookup_cons, this]
          exact lookup_filter _ _ _ _ hin
      rw [htl]
      exact v3.ext hx
end
end Go.Pm
