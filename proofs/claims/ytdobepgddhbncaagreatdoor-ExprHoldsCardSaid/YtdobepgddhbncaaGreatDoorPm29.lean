/-
  Generic: arguments of types that reach themselves: what reads with so much fuel; how large what stands for them may be.
-/
import Derived.Test.YtdobepgddhbncaaGreatDoorPm26
open _root_.List renaming getElem?_eq_getElem -> aPa
namespace Go.Pm
open Go Go.RowKit Go.ChangeShapes Go.WideShapes
set_option linter.unusedSimpArgs false
set_option linter.unusedVariables false
section
variable {H : Type} {enc : TypeId × Value -> H} {P : Program} {w : World}
def OpnN (enc : TypeId × Value -> H) (P : Program) (w : World) (N : Nat) (t : TypeId) (α : Type) (f : α -> List AV) : Prop :=
  ∀ (fuel : Nat), fuel <= N -> ∀ (cs : List Value) (x : DataW H × List MemPlace), DataW.trod enc P w 0 (fun _ => true) true fuel t cs = some x -> ∃ a, uB w cs (f a)
theorem Opn.toN {t : TypeId} {α : Type} {f : α -> List AV} (h : Opn enc P w t α f) (N : Nat) : OpnN enc P w N t α f := fun n _ cs x hx => h n cs x hx
theorem OpnN.all {t : TypeId} {α : Type} {f : α -> List AV} (h : ∀ N, OpnN enc P w N t α f) : Opn enc P w t α f := fun n cs x hx => h n n (Nat.le_refl _) cs x hx
theorem OpnN.map {N : Nat} {t : TypeId} {α β : Type} {f : α -> List AV} {f' : β -> List AV} (h : OpnN enc P w N t α f) (g : α -> β) (hg : ∀ a, f' (g a) = f a) : OpnN enc P w N t β f' := fun n hn cs x hx => by
  obtain ⟨a, ha⟩ := h n hn cs x hx
  exact ⟨g a, by rw [hg]; exact ha⟩
theorem OpnN.slice {N : Nat} {t e : TypeId} {α : Type} {f : α -> AV} (ht : P.underlying t = some (.slice e)) (sz : Nat) (hs : P.cellsOf e = sz) (h0 : 0 < sz) (hf : ∀ a, (f a).cells.length = sz) (h : OpnN enc P w N e α (fun a => (f a).cells)) :
    OpnN enc P w N t (List α) (fun xs => [.list sz (xs.map f)]) := fun n hnN cs x hx => by
  subst hs
  rcases DataW.trod_slice ht hx with ⟨rfl, _⟩ | ⟨a, len, cap, elems, rest, n2, hn2, rfl, _, hb, hl, hm, hel, hxx, _, _⟩
  · exact ⟨[], .one rfl (.empty _ _ _ _ (Nat.zero_le _))⟩
  · by_cases hlen : len = 0
    · subst hlen
      exact ⟨[], .one rfl (.empty _ _ _ _ hm)⟩
    · have each : ∀ i, i < len -> ∃ (y : α) (cs' : List Value), w.cells? 0 (a.add (i * P.cellsOf e)) (P.cellsOf e) = some cs' /\ uB w cs' (f y).cells := fun i hi => by
        have h1 := hxx i hi
        rw [aPa (by omega)] at h1
        obtain ⟨cs', h2, h3⟩ := Option.bind_eq_some_iff.1 h1
        obtain ⟨y, hy⟩ := h n2 (by omega) cs' _ h3
        exact ⟨y, cs', h2, hy⟩
      obtain ⟨y0, cs0, c0, r0⟩ := each 0 (by omega)
      obtain ⟨_, hl0, hc0⟩ := World.cells?_some c0
      have hspot : a.spot = none := by
        have := hc0 0 h0
        have hlt : 0 < cs0.length := by omega
        rw [aPa hlt] at this
        have h2 : w.cell? a = some cs0[0] := by simpa [Addr.add] using this
        exact World.cell?_spot h2
      obtain ⟨b, o, sp⟩ := a
      simp only at hspot
      subst hspot
      have hadd : ∀ k, (⟨b, o, none⟩ : Addr).add k = ⟨b, o + k, none⟩ := fun k => by
        unfold Addr.add
        split
        · next h => subst h; rfl
        · rfl
      have each' : ∀ i : Nat, ∃ (z : α × List Value), i < len -> w.cells? 0 ⟨b, o + i * P.cellsOf e, none⟩ (P.cellsOf e) = some z.2 /\ uB w z.2 (f z.1).cells := fun i => by
        by_cases hi : i < len
        · obtain ⟨y, cs', h1, h2⟩ := each i hi
          rw [hadd] at h1
          exact ⟨⟨y, cs'⟩, fun _ => ⟨h1, h2⟩⟩
        · exact ⟨⟨y0, cs0⟩, fun h => absurd h hi⟩
      let Z : Nat -> α × List Value := fun i => (each' i).choose
      have hZ : ∀ i, i < len -> w.cells? 0 ⟨b, o + i * P.cellsOf e, none⟩ (P.cellsOf e) = some (Z i).2 /\ uB w (Z i).2 (f (Z i).1).cells := fun i => (each' i).choose_spec
      have hlt : b < w.heap.size := by
        have := hc0 0 h0
        have hlt : 0 < cs0.length := by omega
        rw [aPa hlt] at this
        have h2 : w.cell? ⟨b, o, none⟩ = some cs0[0] := by simpa [Addr.add] using this
        unfold World.cell? at h2
        split at h2
        · next h3 => exact (Array.getElem?_eq_some_iff.1 h3).1
        · cases h2
      refine ⟨(List.range len).map fun i => (Z i).1, .one rfl ?_⟩
      refine .list _ b o len cap _ _ (fun i j => ((Z i).2[j]?).getD .nilFunc) (by simp) hl hm (fun x hx => ?_) (fun j hj => hlt) (fun i x j c hx hc => ?_) (fun i x j c hx hc => ?_)
      · simp only [List.map_map, List.mem_map] at hx
        obtain ⟨i, _, rfl⟩ := hx
        exact hf _
      · have hi : i < len := by
          have := (List.getElem?_eq_some_iff.1 hx).1
          simpa using this
        simp [hi] at hx
        subst hx
        obtain ⟨h1, h2⟩ := hZ i hi
        obtain ⟨_, hl1, hc1⟩ := World.cells?_some h1
        have hj : j < (Z i).2.length := by
          rw [h2.1]
          exact (List.getElem?_eq_some_iff.1 hc).1
        have h3 := hc1 j (by omega)
        rw [aPa hj] at h3 ⊢
        rw [add2] at h3
        refine ⟨by rw [h3]; rfl, ?_⟩
        exact (h2.2 j _ _ (aPa hj) hc).1
      · have hi : i < len := by
          have := (List.getElem?_eq_some_iff.1 hx).1
          simpa using this
        simp [hi] at hx
        subst hx
        obtain ⟨h1, h2⟩ := hZ i hi
        have hj : j < (Z i).2.length := by
          rw [h2.1]
          exact (List.getElem?_eq_some_iff.1 hc).1
        rw [aPa hj]
        exact (h2.2 j _ _ (aPa hj) hc).2
def xJ (enc : TypeId × Value -> H) (P : Program) (w : World) (N : Nat) (fs : List Field) (off tot : Nat) (α : Type) (f : α -> List AV) : Prop :=
  ∀ cs : List Value, cs.length = tot -> (∀ fl, fl ∈ fs -> ∃ n x, n <= N /\ DataW.trod enc P w 0 (fun _ => true) true n fl.type ((cs.drop fl.offset).take (P.cellsOf fl.type)) = some x) -> ∃ a, uB w (cs.drop off) (f a)
theorem xJ.nil {N tot : Nat} : xJ enc P w N [] tot tot Unit (fun _ => []) := fun cs hl _ => by
  refine ⟨(), ?_⟩
  rw [List.drop_eq_nil_of_le (by omega)]
  exact ⟨rfl, fun i v c hv => by simp at hv⟩
theorem xJ.cons {N : Nat} {fl : Field} {fs : List Field} {off tot n : Nat} {α β : Type} {f : α -> List AV} {g : β -> List AV} (h : OpnN enc P w N fl.type α f) (ho : fl.offset = off) (hn : P.cellsOf fl.type = n) (k : xJ enc P w N fs (off + n) tot β g) :
    xJ enc P w N (fl :: fs) off tot (α × β) (fun p => f p.1 ++ g p.2) := fun cs hl hx => by
  subst ho hn
  obtain ⟨m, x, hm, h1⟩ := hx fl (List.mem_cons_self ..)
  obtain ⟨a, ha⟩ := h m hm _ _ h1
  obtain ⟨b, hb⟩ := k cs hl (fun fl' h' => hx fl' (List.mem_cons_of_mem _ h'))
  refine ⟨(a, b), ?_⟩
  rw [<- List.take_append_drop (P.cellsOf fl.type) (cs.drop fl.offset), List.drop_drop]
  exact ha.append hb
theorem OpnN.zero {t : TypeId} {fs : Array Field} {α : Type} {f : α -> List AV} (ht : P.underlying t = some (.struct fs)) : OpnN enc P w 0 t α f := fun n hn cs x hx => by
  obtain ⟨xs, m, e, _⟩ := DataW.trod_struct ht hx
  omega
theorem OpnN.struct {N : Nat} {t : TypeId} {fs : Array Field} {tot : Nat} {α : Type} {f : α -> List AV} (ht : P.underlying t = some (.struct fs)) (hc : P.cellsOf t = tot) (h : xJ enc P w N fs.toList 0 tot α f) : OpnN enc P w (N + 1) t α f := fun n hn cs x hx => by
  subst hc
  obtain ⟨xs, m, hm, _, hl, hxs, hf⟩ := DataW.trod_struct ht hx
  have := h cs hl (fun fl hfl => by
    obtain ⟨i, hi⟩ := List.getElem?_of_mem hfl
    have hi' : fs[i]? = some fl := by simpa using hi
    have hlt : i < xs.length := by rw [hxs]; exact (Array.getElem?_eq_some_iff.1 hi').1
    exact ⟨m, _, by omega, (hf i fl hi').trans (aPa hlt)⟩)
  simpa using this
end
theorem Wf.strLen {s : aA} (h : Wf (.str s)) : s.length <= maxLen := by cases h with | str _ h => exact h
theorem Wf.listLen {sz : Nat} {xs : List AV} (h : Wf (.list sz xs)) : xs.length <= maxLen := by cases h with | list _ _ h => exact h
theorem Wf.aggMem {cs : List AV} (h : Wf (.agg cs)) {c : AV} (hc : c ∈ cs) : Wf c := by cases h with | agg _ h => exact h c hc
theorem Wf.listAgg {sz : Nat} {xs : List AV} (h : Wf (.list sz xs)) {cs : List AV} (hx : AV.agg cs ∈ xs) : Wf (.agg cs) := by
  cases h with
  | list _ _ _ h' _ =>
    obtain ⟨i, hi⟩ := List.getElem?_of_mem hx
    refine .agg _ fun c hc => ?_
    obtain ⟨j, hj⟩ := List.getElem?_of_mem hc
    exact h' i _ j c hi hj
end Go.Pm
