/-
  Generic: what a statement's arguments read as is what the abstract machine's arguments stand for; the statement's last step, from the law's contract.
-/
import Derived.Test.YtommkfooolabhaaGreatDoorPm25
import Derived.WideKeyArgs
import Derived.ChangeSame
import Derived.Below
import Derived.Deep.Slices
import Derived.WideShapes
import Derived.RowKit
import Derived.OpenShut
namespace Go.Pm
open Go Go.RowKit Go.ChangeShapes Go.WideShapes
set_option linter.unusedSimpArgs false
set_option linter.unusedVariables false
theorem add2 {b o k j : Nat} : (⟨b, o + k, none⟩ : Addr).add j = ⟨b, o + (k + j), none⟩ := by
  unfold Addr.add
  split
  · next h => subst h; rfl
  · simp [Nat.add_assoc]
def old (w : World) : Nat → Nat → Prop := fun b _ => b < w.heap.size
def RepsC (w : World) (cs : List Value) (as : List AV) : Prop :=
  cs.length = as.length ∧ ∀ (i : Nat) (v : Value) (c : AV), cs[i]? = some v → as[i]? = some c → v.oneCell' = true ∧ Rep (old w) w (fun _ => none) v c
section
variable {H : Type} {enc : TypeId × Value → H} {P : Program} {w : World}
def Opn (enc : TypeId × Value → H) (P : Program) (w : World) (t : TypeId) (α : Type) (f : α → List AV) : Prop :=
  ∀ (fuel : Nat) (cs : List Value) (x : DataW H × List MemPlace), DataW.trod enc P w 0 (fun _ => true) true fuel t cs = some x → ∃ a, RepsC w cs (f a)
theorem RepsC.one {v : Value} {a : AV} (h1 : v.oneCell' = true) (h : Rep (old w) w (fun _ => none) v a) : RepsC w [v] [a] := by
  refine ⟨rfl, fun i u c hu hc => ?_⟩
  match i, hu, hc with
  | 0, hu, hc =>
    simp at hu hc
    subst hu; subst hc
    exact ⟨h1, h⟩
theorem RepsC.append {cs ds : List Value} {as bs : List AV} (h : RepsC w cs as) (k : RepsC w ds bs) : RepsC w (cs ++ ds) (as ++ bs) := by
  refine ⟨by rw [List.length_append, List.length_append, h.1, k.1], fun i v c hv hc => ?_⟩
  by_cases hi : i < cs.length
  · rw [List.getElem?_append_left hi] at hv
    rw [List.getElem?_append_left (by rw [← h.1]; exact hi)] at hc
    exact h.2 i v c hv hc
  · rw [List.getElem?_append_right (by omega)] at hv
    rw [List.getElem?_append_right (by rw [← h.1]; omega), ← h.1] at hc
    exact k.2 _ v c hv hc
theorem Opn.map {t : TypeId} {α β : Type} {f : α → List AV} {f' : β → List AV} (h : Opn enc P w t α f) (g : α → β) (hg : ∀ a, f' (g a) = f a) : Opn enc P w t β f' := fun n cs x hx => by
  obtain ⟨a, ha⟩ := h n cs x hx
  exact ⟨g a, by rw [hg]; exact ha⟩
theorem Opn.bool {t : TypeId} (ht : P.underlying t = some .bool) : Opn enc P w t Bool (fun b => [.bool b]) := fun n cs x hx => by
  obtain ⟨b, rfl, _⟩ := DataW.trod_bool ht hx
  exact ⟨b, .one rfl (.bool _ _)⟩
theorem wrap_wf {k : IntKind} {n : Int} (h : (Lit.int k n).wf = true) : k.wrap n = n := by
  cases k <;> simp [Lit.wf, IntKind.wrap, IntKind.min, IntKind.max, IntKind.signed, IntKind.bits] at h ⊢ <;> (try split) <;> omega
theorem Opn.int {t : TypeId} {k : IntKind} (ht : P.underlying t = some (.int k)) : Opn enc P w t Int (fun n => [.int k n]) := fun m cs x hx => by
  obtain ⟨n, rfl, _, hw⟩ := DataW.trod_int ht hx
  exact ⟨n, .one rfl (.int _ _ _ (wrap_wf hw))⟩
theorem Opn.str {t : TypeId} (ht : P.underlying t = some .string) : Opn enc P w t Bytes (fun s => [.str s]) := fun n cs x hx => by
  obtain ⟨s, rfl, _, hs⟩ := DataW.trod_string ht hx
  obtain ⟨⟨l⟩⟩ := s
  exact ⟨l, .one rfl (.str _ _ hs)⟩
theorem Opn.slice {t e : TypeId} {α : Type} {f : α → AV} (ht : P.underlying t = some (.slice e)) (sz : Nat) (hs : P.cellsOf e = sz) (h0 : 0 < sz) (hf : ∀ a, (f a).cells.length = sz) (h : Opn enc P w e α (fun a => (f a).cells)) :
    Opn enc P w t (List α) (fun xs => [.list sz (xs.map f)]) := fun n cs x hx => by
  subst hs
  rcases Go.Deep.open_slice ht hx with ⟨rfl, _⟩ | ⟨a, len, cap, m, n2, D, Pl, rfl, hb, hl, hm, hmm, _, hxx⟩
  · exact ⟨[], .one rfl (.empty _ _ _ _ (Nat.zero_le _))⟩
  · have hmc : m = cap := by rw [hmm]; rfl
    by_cases hlen : len = 0
    · subst hlen
      exact ⟨[], .one rfl (.empty _ _ _ _ hm)⟩
    · have each : ∀ i, i < len → ∃ (y : α) (cs' : List Value), w.cells? 0 (a.add (i * P.cellsOf e)) (P.cellsOf e) = some cs' ∧ RepsC w cs' (f y).cells := fun i hi => by
        obtain ⟨cs', h1, h2⟩ := hxx i (by omega)
        obtain ⟨y, hy⟩ := h n2 cs' _ h2
        exact ⟨y, cs', h1, hy⟩
      obtain ⟨y0, cs0, c0, r0⟩ := each 0 (by omega)
      obtain ⟨_, hl0, hc0⟩ := World.cells?_some c0
      have hspot : a.spot = none := by
        have := hc0 0 h0
        have hlt : 0 < cs0.length := by omega
        rw [List.getElem?_eq_getElem hlt] at this
        have h2 : w.cell? a = some cs0[0] := by simpa [Addr.add] using this
        exact World.cell?_spot h2
      obtain ⟨b, o, sp⟩ := a
      simp only at hspot
      subst hspot
      have hadd : ∀ k, (⟨b, o, none⟩ : Addr).add k = ⟨b, o + k, none⟩ := fun k => by
        unfold Addr.add
        split
        · next h => subst h; rfl
        · rfl
      have each' : ∀ i : Nat, ∃ (z : α × List Value), i < len → w.cells? 0 ⟨b, o + i * P.cellsOf e, none⟩ (P.cellsOf e) = some z.2 ∧ RepsC w z.2 (f z.1).cells := fun i => by
        by_cases hi : i < len
        · obtain ⟨y, cs', h1, h2⟩ := each i hi
          rw [hadd] at h1
          exact ⟨⟨y, cs'⟩, fun _ => ⟨h1, h2⟩⟩
        · exact ⟨⟨y0, cs0⟩, fun h => absurd h hi⟩
      let Z : Nat → α × List Value := fun i => (each' i).choose
      have hZ : ∀ i, i < len → w.cells? 0 ⟨b, o + i * P.cellsOf e, none⟩ (P.cellsOf e) = some (Z i).2 ∧ RepsC w (Z i).2 (f (Z i).1).cells := fun i => (each' i).choose_spec
      have hlt : b < w.heap.size := by
        have := hc0 0 h0
        have hlt : 0 < cs0.length := by omega
        rw [List.getElem?_eq_getElem hlt] at this
        have h2 : w.cell? ⟨b, o, none⟩ = some cs0[0] := by simpa [Addr.add] using this
        unfold World.cell? at h2
        split at h2
        · next h3 => exact (Array.getElem?_eq_some_iff.1 h3).1
        · cases h2
      refine ⟨(List.range len).map fun i => (Z i).1, .one rfl ?_⟩
      refine .list _ b o len cap _ _ (fun i j => ((Z i).2[j]?).getD .nilFunc) (by simp) hl hm (fun x hx => ?_) (fun j hj => hlt) (fun i x j c hx hc => ?_) (fun i x j c hx hc => ?_)
      · simp only [List.map_map, List.mem_map] at hx
        obtain ⟨i, _, rfl⟩ := hx
        exact hf _
      · have hi : i < len := by
          have := (List.getElem?_eq_some_iff.1 hx).1
          simpa using this
        simp [hi] at hx
        subst hx
        obtain ⟨h1, h2⟩ := hZ i hi
        obtain ⟨_, hl1, hc1⟩ := World.cells?_some h1
        have hj : j < (Z i).2.length := by
          rw [h2.1]
          exact (List.getElem?_eq_some_iff.1 hc).1
        have h3 := hc1 j (by omega)
        rw [List.getElem?_eq_getElem hj] at h3 ⊢
        rw [add2] at h3
        refine ⟨by rw [h3]; rfl, ?_⟩
        exact (h2.2 j _ _ (List.getElem?_eq_getElem hj) hc).1
      · have hi : i < len := by
          have := (List.getElem?_eq_some_iff.1 hx).1
          simpa using this
        simp [hi] at hx
        subst hx
        obtain ⟨h1, h2⟩ := hZ i hi
        have hj : j < (Z i).2.length := by
          rw [h2.1]
          exact (List.getElem?_eq_some_iff.1 hc).1
        rw [List.getElem?_eq_getElem hj]
        exact (h2.2 j _ _ (List.getElem?_eq_getElem hj) hc).2
def OpnF (enc : TypeId × Value → H) (P : Program) (w : World) (fs : List Field) (off tot : Nat) (α : Type) (f : α → List AV) : Prop :=
  ∀ cs : List Value, cs.length = tot → (∀ fl, fl ∈ fs → ∃ n x, DataW.trod enc P w 0 (fun _ => true) true n fl.type ((cs.drop fl.offset).take (P.cellsOf fl.type)) = some x) → ∃ a, RepsC w (cs.drop off) (f a)
theorem OpnF.nil {tot : Nat} : OpnF enc P w [] tot tot Unit (fun _ => []) := fun cs hl _ => by
  refine ⟨(), ?_⟩
  rw [List.drop_eq_nil_of_le (by omega)]
  exact ⟨rfl, fun i v c hv => by simp at hv⟩
theorem OpnF.cons {fl : Field} {fs : List Field} {off tot n : Nat} {α β : Type} {f : α → List AV} {g : β → List AV} (h : Opn enc P w fl.type α f) (ho : fl.offset = off) (hn : P.cellsOf fl.type = n) (k : OpnF enc P w fs (off + n) tot β g) :
    OpnF enc P w (fl :: fs) off tot (α × β) (fun p => f p.1 ++ g p.2) := fun cs hl hx => by
  subst ho hn
  obtain ⟨m, x, h1⟩ := hx fl (List.mem_cons_self ..)
  obtain ⟨a, ha⟩ := h m _ _ h1
  obtain ⟨b, hb⟩ := k cs hl (fun fl' h' => hx fl' (List.mem_cons_of_mem _ h'))
  refine ⟨(a, b), ?_⟩
  rw [← List.take_append_drop (P.cellsOf fl.type) (cs.drop fl.offset), List.drop_drop]
  exact ha.append hb
theorem Opn.struct {t : TypeId} {fs : Array Field} {tot : Nat} {α : Type} {f : α → List AV} (ht : P.underlying t = some (.struct fs)) (hc : P.cellsOf t = tot) (h : OpnF enc P w fs.toList 0 tot α f) : Opn enc P w t α f := fun n cs x hx => by
  subst hc
  obtain ⟨xs, m, _, _, hl, hxs, hf⟩ := DataW.trod_struct ht hx
  have := h cs hl (fun fl hfl => by
    obtain ⟨i, hi⟩ := List.getElem?_of_mem hfl
    have hi' : fs[i]? = some fl := by simpa using hi
    have hlt : i < xs.length := by rw [hxs]; exact (Array.getElem?_eq_some_iff.1 hi').1
    exact ⟨m, _, (hf i fl hi').trans (List.getElem?_eq_getElem hlt)⟩)
  simpa using this
theorem Opn.arg {b0 : Nat} {t : TypeId} {v : Value} {d : DataW H} {ps : List MemPlace} {α : Type} {f : α → AV} (h : Opn enc P w t α (fun a => [f a])) (hone : v.cells.toList = [v]) (hd : DataW.Trod enc P w 0 (fun _ => true) true t v d ps) :
    ∃ a, Rep (old w) w (fun _ => none) v (f a) := by
  obtain ⟨n, hn⟩ := hd
  obtain ⟨a, _, ha⟩ := h n _ _ hn
  rw [hone] at ha
  exact ⟨a, (ha 0 v (f a) rfl rfl).2⟩
theorem Opn.argS {b0 : Nat} {t : TypeId} {v : Value} {d : DataW H} {ps : List MemPlace} {α : Type} {f : α → List AV} {fs : Array Field} (ht : P.underlying t = some (.struct fs)) (hval : Value.okWide P w .any b0 t v) (h : Opn enc P w t α f) (hd : DataW.Trod enc P w 0 (fun _ => true) true t v d ps) :
    ∃ a, Rep (old w) w (fun _ => none) v (.agg (f a)) := by
  obtain ⟨cs, rfl, _⟩ := okWide_struct ht hval
  obtain ⟨n, hn⟩ := hd
  obtain ⟨a, hl, ha⟩ := h n _ _ hn
  have hcs : (Value.agg cs).cells.toList = cs.toList := rfl
  rw [hcs] at hl ha
  have := Rep.agg (F := old w) (w := w) (fun _ => none) cs.toList (f a) hl (fun v hv => by
    obtain ⟨i, hi⟩ := List.getElem?_of_mem hv
    have hlt : i < (f a).length := by rw [← hl]; exact (List.getElem?_eq_some_iff.1 hi).1
    exact (ha i v _ hi (List.getElem?_eq_getElem hlt)).1) (fun i v c hv hc => (ha i v c hv hc).2)
  exact ⟨a, by simpa using this⟩
theorem Opn.argStr {b0 : Nat} {t : TypeId} {v : Value} {d : DataW H} {ps : List MemPlace} (ht : P.underlying t = some .string) (hval : Value.okWide P w .any b0 t v) (hd : DataW.Trod enc P w 0 (fun _ => true) true t v d ps) :
    ∃ a, Rep (old w) w (fun _ => none) v (.str a) := by
  obtain ⟨s, rfl⟩ := okWide_string ht hval
  exact (Opn.str ht).arg (b0 := b0) rfl hd
theorem Opn.argInt {b0 : Nat} {t : TypeId} {k : IntKind} {v : Value} {d : DataW H} {ps : List MemPlace} (ht : P.underlying t = some (.int k)) (hval : Value.okWide P w .any b0 t v) (hd : DataW.Trod enc P w 0 (fun _ => true) true t v d ps) :
    ∃ a, Rep (old w) w (fun _ => none) v (.int k a) := by
  obtain ⟨s, rfl⟩ := okWide_int ht hval
  exact (Opn.int ht).arg (b0 := b0) rfl hd
theorem trodAll_stays (hl : laidOutB P = true) {W' : World} {sp : Nat → Bool} : ∀ (ts : List TypeId) (vs : List Value) (ds : List (DataW H)) (ps : List MemPlace), (∀ t, t ∈ ts → P.readableRec t = true ∧ t < P.types.size) →
    DataW.TrodAll enc P w 0 (fun _ => true) true ts vs ds ps → (∀ p, p ∈ ps → w.sameAt W' p) → (∀ p, p ∈ ps → sp p.block = true) → DataW.TrodAll enc P W' 0 sp true ts vs ds ps
  | [], [], [], _, _, h, _, _ => h
  | t :: ts, v :: vs, d :: ds, ps, ht, h, hs, hp => by
    obtain ⟨p, q, h1, h2, rfl⟩ := h
    obtain ⟨a, b⟩ := ht t (List.mem_cons_self ..)
    exact ⟨p, q, Go.WideElems.Trod_stays hl a b h1 (fun x hx => hs x (List.mem_append_left _ hx)) (fun x hx => hp x (List.mem_append_left _ hx)),
      trodAll_stays hl ts vs ds q (fun t' h' => ht t' (List.mem_cons_of_mem _ h')) h2 (fun x hx => hs x (List.mem_append_right _ hx)) (fun x hx => hp x (List.mem_append_right _ hx)), rfl⟩
  | [], _ :: _, _, _, _, h, _, _ => h.elim
  | [], [], _ :: _, _, _, h, _, _ => h.elim
  | _ :: _, [], _, _, _, h, _, _ => h.elim
  | _ :: _, _ :: _, [], _, _, h, _, _ => h.elim
theorem post_below {f : Func} {s : ChangeSpec} {apart fresh handsOn again : Bool} {W W' : World} {args : Array Value} {v : Value} {ds gs : List (DataW H)} {before pa pv : List MemPlace}
    (hW : DataW.Whole enc P f.params.toList s.vars apart W args.toList ds gs before)
    (hres : ∀ (b : Nat) (sp : Nat → Bool) (hd : Bool), DataW.TrodAll enc P W' b sp hd f.resultTypes.toList (v.resultList f.resultTypes.size) (s.fn H (ds ++ gs)).results [])
    (hargs : ∀ sp : Nat → Bool, (∀ p ∈ before, sp p.block = true) → DataW.TrodAll enc P W' 0 sp true f.params.toList args.toList (s.fn H (ds ++ gs)).args pa)
    (hvars : ∀ sp : Nat → Bool, (∀ p ∈ before, sp p.block = true) → DataW.TrodVars enc P W' sp s.vars (s.fn H (ds ++ gs)).vars pv)
    (hps : before = pa ++ pv) (hb : Below W.heap.size W W')
    (hok : ∀ (j : Nat) (t : TypeId) (r : Value), f.resultTypes[j]? = some t → (v.resultList f.resultTypes.size)[j]? = some r → Value.okWide P W' .any 0 t r) :
    s.post enc P f apart fresh handsOn again W args v W' := by
  have hlt : ∀ p ∈ before, p.block < W.heap.size := fun p hp => hW.lt p hp
  have hold : ∀ p ∈ before, (fun b => decide (b < W.heap.size)) p.block = true := fun p hp => by simpa using hlt p hp
  refine ⟨ds, gs, before, [], pa, pv, hW, hres _ _ _, hargs _ hold, hvars _ hold, World.keptBut_mono (fun p hp => ⟨hp, ?_⟩) (hb.frame (· ∈ before)), fun _ => ?_⟩
  · rw [hps, List.mem_append] at hp
    exact Or.inr hp
  · obtain ⟨_, _, _, _, _, hz, hn⟩ := hW
    refine ⟨hok, _, _, ([] ++ pa) ++ pv, ⟨[] ++ pa, pv, trodAll_append (hargs _ (fun _ _ => rfl)) (hres _ _ _), hvars _ (fun _ _ => rfl), rfl, ?_, ?_⟩, ?_⟩
    · intro b off hp
      have hin : MemPlace.cell b off ∈ before := by rw [hps]; simpa using hp
      rw [hb.frozen (hlt _ hin)]
      exact hz b off hin
    · intro ha
      have := hn ha
      rw [hps] at this
      simpa using this
    · intro p hp _
      rw [hps]
      simpa using hp
theorem law_post {fid : FuncId} {fn : Func} {s : ChangeSpec} {W : World} {args : Array Value} {ds gs : List (DataW H)} {before : List MemPlace} {tb : TypeId} {avs : List AV} {own : Bool} {E : Env}
    (hE : E.W0 = W) (hE' : E.GB ≤ W.heap.size) (hb : bodied P fid) (hk : FnR E P fid avs (.bool true) own)
    (hlen : args.toList.length = avs.length) (hrep : ∀ (i : Nat) (v : Value) (c : AV), args.toList[i]? = some v → avs[i]? = some c → Rep (old W) W (fun _ => none) v c)
    (hW : DataW.Whole enc P fn.params.toList s.vars false W args.toList ds gs before) (hvars : s.vars = []) (hsv : (s.fn H (ds ++ gs)).vars = [])
    (hres : (s.fn H (ds ++ gs)).results = [.lit (.bool true)]) (harg : (s.fn H (ds ++ gs)).args = ds)
    (hl : laidOutB P = true) (hp : ∀ t, t ∈ fn.params.toList → P.readableRec t = true ∧ t < P.types.size) (hr : fn.resultTypes = #[tb]) (htb : P.underlying tb = some .bool) :
    Calls P fid args W fun e W' => ∃ v, e = .returned v ∧ s.post enc P fn false true false false W args v W' := by
  rcases hk with ⟨_, hk⟩ | ⟨_, hk⟩
  · have := hk (old W) W args.toList ⟨fun b _ h => h, fun b _ => by rw [hE], hE'⟩ hlen hrep
    refine Calls.mono (show Calls P fid args.toList.toArray W _ from this) fun e w' ⟨v, F', he, hbel, _, _, hv, _⟩ => ?_
    cases hv
    refine ⟨_, he, ?_⟩
    have hW' := hW
    obtain ⟨p, q, hA, hV, hpq, _, _⟩ := hW'
    have hq : q = [] ∧ gs = [] := by
      rw [hvars] at hV
      cases gs with
      | nil => exact ⟨hV, rfl⟩
      | cons g gs => exact hV.elim
    obtain ⟨rfl, rfl⟩ := hq
    rw [List.append_nil] at hpq
    subst hpq
    refine post_below (pa := before) (pv := []) hW ?_ ?_ ?_ (by rw [List.append_nil]) hbel ?_
    · intro b sp hd
      rw [hr, hres]
      exact trodAll_cons_mk (shut_bool htb _) trodAll_mk0
    · intro sp hsp
      rw [harg]
      exact trodAll_stays hl _ _ _ _ hp hA (fun x hx => hbel.same (hW.lt x hx)) hsp
    · intro sp _
      rw [hvars, hsv]
      rfl
    · exact ok_one hr rfl (okWide_bool_mk htb _)
  · obtain ⟨v, hv, _⟩ := hk W args.toList hlen ⟨_, hrep⟩
    rw [run_call hb] at hv
    cases hv
end
end Go.Pm
