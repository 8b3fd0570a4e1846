/-
  Generic: arguments, read, and how much data they are of.
-/
import Derived.Test.YtdobepgddhbncaaGreatDoorPm29
open _root_.List renaming getElem?_eq_getElem -> aPs
namespace Go.Pm
open Go Go.RowKit Go.ChangeShapes Go.WideShapes
set_option linter.unusedSimpArgs false
set_option linter.unusedVariables false
structure Bulk {H : Type} (B : DataW H -> Nat) : Prop where
  str : ∀ s : List UInt8, s.length <= B (.lit (.string s))
  slice : ∀ e r : List (DataW H), (e.map B).sum <= B (.slice e r)
  agg : ∀ l : List (DataW H), (l.map B).sum <= B (.agg l)
theorem aJS {α β : Type} (f : α -> Nat) (g : β -> Nat) : ∀ (l : List α) (k : List β), l.length = k.length -> (∀ (i : Nat) (x : α) (y : β), l[i]? = some x -> k[i]? = some y -> f x <= g y) -> (l.map f).sum <= (k.map g).sum
  | [], [], _, _ => Nat.le_refl _
  | x :: l, y :: k, h, hx => by
    rw [List.map_cons, List.map_cons, List.sum_cons, List.sum_cons]
    have h1 := hx 0 x y rfl rfl
    have h2 := aJS f g l k (by simpa using h) (fun i a b ha hb => hx (i + 1) a b ha hb)
    omega
  | [], _ :: _, h, _ => by simp at h
  | _ :: _, [], h, _ => by simp at h
section
variable {H : Type} {enc : TypeId × Value -> H} {P : Program} {w : World} {B : DataW H -> Nat}
def OpnB (enc : TypeId × Value -> H) (P : Program) (w : World) (B : DataW H -> Nat) (N : Nat) (t : TypeId) (α : Type) (f : α -> List AV) (m : α -> Nat) : Prop :=
  ∀ (fuel : Nat), fuel <= N -> ∀ (cs : List Value) (x : DataW H × List MemPlace), DataW.trod enc P w 0 (fun _ => true) true fuel t cs = some x -> ∃ a, uC w cs (f a) /\ m a <= B x.1
theorem OpnB.of {N : Nat} {t : TypeId} {α : Type} {f : α -> List AV} (h : Opn enc P w t α f) : OpnB enc P w B N t α f (fun _ => 0) := fun n _ cs x hx => by
  obtain ⟨a, ha⟩ := h n cs x hx
  exact ⟨a, ha, Nat.zero_le _⟩
theorem OpnB.str {N : Nat} {t : TypeId} (hB : Bulk B) (ht : P.underlying t = some .string) : OpnB enc P w B N t aA (fun s => [.str s]) List.length := fun n _ cs x hx => by
  obtain ⟨s, rfl, hx1, hs⟩ := DataW.trod_string ht hx
  obtain ⟨⟨l⟩⟩ := s
  refine ⟨l, .one rfl (.str _ _ hs), ?_⟩
  rw [hx1]
  exact hB.str l
theorem OpnB.map {N : Nat} {t : TypeId} {α β : Type} {f : α -> List AV} {f' : β -> List AV} {m : α -> Nat} {m' : β -> Nat} (h : OpnB enc P w B N t α f m) (g : α -> β) (hg : ∀ a, f' (g a) = f a) (hm : ∀ a, m' (g a) <= m a) : OpnB enc P w B N t β f' m' := fun n hn cs x hx => by
  obtain ⟨a, ha, hb⟩ := h n hn cs x hx
  exact ⟨g a, by rw [hg]; exact ha, Nat.le_trans (hm a) hb⟩
theorem OpnB.slice {N : Nat} {t e : TypeId} {α : Type} {f : α -> AV} {m : α -> Nat} (hB : Bulk B) (ht : P.underlying t = some (.slice e)) (sz : Nat) (hs : P.cellsOf e = sz) (h0 : 0 < sz) (hf : ∀ a, (f a).cells.length = sz) (h : OpnB enc P w B N e α (fun a => (f a).cells) m) :
    OpnB enc P w B N t (List α) (fun xs => [.list sz (xs.map f)]) (fun xs => (xs.map m).sum) := fun n hnN cs x hx => by
  subst hs
  rcases DataW.trod_slice ht hx with ⟨rfl, _⟩ | ⟨a, len, cap, elems, rest, n2, hn2, rfl, hx1, hb, hl, hm, hel, hxx, _, _⟩
  · exact ⟨[], .one rfl (.empty _ _ _ _ (Nat.zero_le _)), Nat.zero_le _⟩
  · by_cases hlen : len = 0
    · subst hlen
      exact ⟨[], .one rfl (.empty _ _ _ _ hm), Nat.zero_le _⟩
    · have each : ∀ i, i < len -> ∃ (y : α) (cs' : List Value), w.cells? 0 (a.add (i * P.cellsOf e)) (P.cellsOf e) = some cs' /\ uC w cs' (f y).cells /\ ∀ q, elems[i]? = some q -> m y <= B q.1 := fun i hi => by
        have h1 := hxx i hi
        rw [aPs (by omega)] at h1
        obtain ⟨cs', h2, h3⟩ := Option.bind_eq_some_iff.1 h1
        obtain ⟨y, hy, hy2⟩ := h n2 (by omega) cs' _ h3
        refine ⟨y, cs', h2, hy, fun q hq => ?_⟩
        rw [aPs (by omega)] at hq
        rw [<- Option.some.inj hq]; exact hy2
      obtain ⟨y0, cs0, c0, r0, _⟩ := each 0 (by omega)
      obtain ⟨_, hl0, hc0⟩ := World.cells?_some c0
      have hspot : a.spot = none := by
        have := hc0 0 h0
        have hlt : 0 < cs0.length := by omega
        rw [aPs hlt] at this
        have h2 : w.cell? a = some cs0[0] := by simpa [Addr.add] using this
        exact World.cell?_spot h2
      obtain ⟨b, o, sp⟩ := a
      simp only at hspot
      subst hspot
      have hadd : ∀ k, (⟨b, o, none⟩ : Addr).add k = ⟨b, o + k, none⟩ := fun k => by
        unfold Addr.add
        split
        · next h => subst h; rfl
        · rfl
      have each' : ∀ i : Nat, ∃ (z : α × List Value), i < len -> w.cells? 0 ⟨b, o + i * P.cellsOf e, none⟩ (P.cellsOf e) = some z.2 /\ uC w z.2 (f z.1).cells /\ ∀ q, elems[i]? = some q -> m z.1 <= B q.1 := fun i => by
        by_cases hi : i < len
        · obtain ⟨y, cs', h1, h2⟩ := each i hi
          rw [hadd] at h1
          exact ⟨⟨y, cs'⟩, fun _ => ⟨h1, h2⟩⟩
        · exact ⟨⟨y0, cs0⟩, fun h => absurd h hi⟩
      let Z : Nat -> α × List Value := fun i => (each' i).choose
      have hZ : ∀ i, i < len -> w.cells? 0 ⟨b, o + i * P.cellsOf e, none⟩ (P.cellsOf e) = some (Z i).2 /\ uC w (Z i).2 (f (Z i).1).cells /\ ∀ q, elems[i]? = some q -> m (Z i).1 <= B q.1 := fun i => (each' i).choose_spec
      have hlt : b < w.heap.size := by
        have := hc0 0 h0
        have hlt : 0 < cs0.length := by omega
        rw [aPs hlt] at this
        have h2 : w.cell? ⟨b, o, none⟩ = some cs0[0] := by simpa [Addr.add] using this
        unfold World.cell? at h2
        split at h2
        · next h3 => exact (Array.getElem?_eq_some_iff.1 h3).1
        · cases h2
      refine ⟨(List.range len).map fun i => (Z i).1, .one rfl ?_, ?_⟩
      · refine .list _ b o len cap _ _ (fun i j => ((Z i).2[j]?).getD .nilFunc) (by simp) hl hm (fun x hx => ?_) (fun j hj => hlt) (fun i x j c hx hc => ?_) (fun i x j c hx hc => ?_)
        · simp only [List.map_map, List.mem_map] at hx
          obtain ⟨i, _, rfl⟩ := hx
          exact hf _
        · have hi : i < len := by
            have := (List.getElem?_eq_some_iff.1 hx).1
            simpa using this
          simp [hi] at hx
          subst hx
          obtain ⟨h1, h2, _⟩ := hZ i hi
          obtain ⟨_, hl1, hc1⟩ := World.cells?_some h1
          have hj : j < (Z i).2.length := by
            rw [h2.1]
            exact (List.getElem?_eq_some_iff.1 hc).1
          have h3 := hc1 j (by omega)
          rw [aPs hj] at h3 ⊢
          rw [add2] at h3
          refine ⟨by rw [h3]; rfl, ?_⟩
          exact (h2.2 j _ _ (aPs hj) hc).1
        · have hi : i < len := by
            have := (List.getElem?_eq_some_iff.1 hx).1
            simpa using this
          simp [hi] at hx
          subst hx
          obtain ⟨h1, h2, _⟩ := hZ i hi
          have hj : j < (Z i).2.length := by
            rw [h2.1]
            exact (List.getElem?_eq_some_iff.1 hc).1
          rw [aPs hj]
          exact (h2.2 j _ _ (aPs hj) hc).2
      · rw [hx1]
        refine Nat.le_trans ?_ (hB.slice _ _)
        rw [List.map_map]
        refine aJS m (B ∘ (·.1)) ((List.range len).map fun i => (Z i).1) elems (by simp [hel]) (fun i y q hy hq => ?_)
        have hi : i < len := by
          have := (List.getElem?_eq_some_iff.1 hy).1
          simpa using this
        simp [hi] at hy
        subst hy
        exact (hZ i hi).2.2 q hq
def xN (enc : TypeId × Value -> H) (P : Program) (w : World) (B : DataW H -> Nat) (N : Nat) (fs : List Field) (off tot : Nat) (α : Type) (f : α -> List AV) (m : α -> Nat) : Prop :=
  ∀ cs : List Value, cs.length = tot -> ∀ ds : List (DataW H), ds.length = fs.length -> (∀ (i : Nat) (fl : Field) (d : DataW H), fs[i]? = some fl -> ds[i]? = some d -> ∃ n p, n <= N /\ DataW.trod enc P w 0 (fun _ => true) true n fl.type ((cs.drop fl.offset).take (P.cellsOf fl.type)) = some (d, p)) ->
    ∃ a, uC w (cs.drop off) (f a) /\ m a <= (ds.map B).sum
theorem xN.nil {N tot : Nat} : xN enc P w B N [] tot tot Unit (fun _ => []) (fun _ => 0) := fun cs hl ds _ _ => by
  refine ⟨(), ?_, Nat.zero_le _⟩
  rw [List.drop_eq_nil_of_le (by omega)]
  exact ⟨rfl, fun i v c hv => by simp at hv⟩
theorem xN.cons {N : Nat} {fl : Field} {fs : List Field} {off tot n : Nat} {α β : Type} {f : α -> List AV} {g : β -> List AV} {m : α -> Nat} {m' : β -> Nat} (h : OpnB enc P w B N fl.type α f m) (ho : fl.offset = off) (hn : P.cellsOf fl.type = n) (k : xN enc P w B N fs (off + n) tot β g m') :
    xN enc P w B N (fl :: fs) off tot (α × β) (fun p => f p.1 ++ g p.2) (fun p => m p.1 + m' p.2) := fun cs hl ds hd hx => by
  subst ho hn
  match ds, hd, hx with
  | d :: ds, hd, hx =>
    obtain ⟨q, p, hq, h1⟩ := hx 0 fl d rfl rfl
    obtain ⟨a, ha, ha'⟩ := h q hq _ _ h1
    obtain ⟨b, hb, hb'⟩ := k cs hl ds (by simpa using hd) (fun i fl' d' h1 h2 => hx (i + 1) fl' d' h1 h2)
    refine ⟨(a, b), ?_, ?_⟩
    · rw [<- List.take_append_drop (P.cellsOf fl.type) (cs.drop fl.offset), List.drop_drop]
      exact ha.append hb
    · rw [List.map_cons, List.sum_cons]
      exact Nat.add_le_add ha' hb'
theorem OpnB.zero {t : TypeId} {fs : Array Field} {α : Type} {f : α -> List AV} {m : α -> Nat} (ht : P.underlying t = some (.struct fs)) : OpnB enc P w B 0 t α f m := fun n hn cs x hx => by
  obtain ⟨xs, m, e, _⟩ := DataW.trod_struct ht hx
  omega
theorem OpnB.struct {N : Nat} {t : TypeId} {fs : Array Field} {tot : Nat} {α : Type} {f : α -> List AV} {m : α -> Nat} (hB : Bulk B) (ht : P.underlying t = some (.struct fs)) (hc : P.cellsOf t = tot) (h : xN enc P w B N fs.toList 0 tot α f m) : OpnB enc P w B (N + 1) t α f m := fun n hn cs x hx => by
  subst hc
  obtain ⟨xs, k, hk, hx1, hl, hxs, hf⟩ := DataW.trod_struct ht hx
  obtain ⟨a, ha, hb⟩ := h cs hl (xs.map (·.1)) (by rw [List.length_map, hxs]; simp) (fun i fl d h1 h2 => by
    have hi' : fs[i]? = some fl := by simpa using h1
    rw [List.getElem?_map, Option.map_eq_some_iff] at h2
    obtain ⟨q, hq, rfl⟩ := h2
    exact ⟨k, q.2, by omega, (hf i fl hi').trans hq⟩)
  refine ⟨a, by simpa using ha, ?_⟩
  rw [hx1]
  exact Nat.le_trans hb (hB.agg _)
theorem OpnB.argS {b0 : Nat} {t : TypeId} {v : Value} {d : DataW H} {ps : List MemPlace} {α : Type} {f : α -> List AV} {m : α -> Nat} {fs : Array Field} (ht : P.underlying t = some (.struct fs)) (hval : Value.okWide P w .any b0 t v) (h : ∀ N, OpnB enc P w B N t α f m) (hd : DataW.Trod enc P w 0 (fun _ => true) true t v d ps) :
    ∃ a, Rep (old w) w (fun _ => none) v (.agg (f a)) /\ m a <= B d := by
  obtain ⟨cs, rfl, _⟩ := okWide_struct ht hval
  obtain ⟨n, hn⟩ := hd
  obtain ⟨a, ⟨hl, ha⟩, hm⟩ := h n n (Nat.le_refl _) _ _ hn
  have hcs : (Value.agg cs).cells.toList = cs.toList := rfl
  rw [hcs] at hl ha
  have := Rep.agg (F := old w) (w := w) (fun _ => none) cs.toList (f a) hl (fun v hv => by
    obtain ⟨i, hi⟩ := List.getElem?_of_mem hv
    have hlt : i < (f a).length := by rw [<- hl]; exact (List.getElem?_eq_some_iff.1 hi).1
    exact (ha i v _ hi (aPs hlt)).1) (fun i v c hv hc => (ha i v c hv hc).2)
  exact ⟨a, by simpa using this, hm⟩
end
end Go.Pm
