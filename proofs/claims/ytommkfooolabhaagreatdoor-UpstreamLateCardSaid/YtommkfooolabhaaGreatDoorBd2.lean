/-
  Generic: calls of a strings.Builder's methods: WriteString; String, behind which the builder is not written any more.
-/
import Derived.Test.YtommkfooolabhaaGreatDoorPm28
import Derived.Test.YtommkfooolabhaaGreatDoorBd1
namespace Go.Pm
open Go Go.RowKit Go.Shelf Go.Proofs
set_option linter.unusedSimpArgs false
set_option linter.unusedVariables false
theorem onlyO {H : List AObj} {k : List Nat} {id : Nat} (hH : ∀ (i : Nat) (x : AObj), H[i]? = some x → x ≠ .dead → i = id) (hk : ∀ (i n : Nat), k[i]? = some n → n = 0) : ∀ l, l ∈ wLocs H k (k.length - k.length) → l = .obj id := by
  intro l hl
  cases l with
  | slot t => exact absurd hl wLocs_slot
  | obj i => obtain ⟨x, h1, h2⟩ := wLocs_obj.1 hl; rw [hH i x h1 h2]
  | tok i =>
    rcases wLocs_tok.1 hl with ⟨m, h⟩ | ⟨h1, h2⟩
    · have := hk _ _ h; omega
    · omega
theorem FnW.bldWrite {E : Env} {P : Program} {ρ : Ren} (L : Lays.n166 P ρ) (X : Builder.Extra P ρ) {H : List AObj} {k : List Nat} {id : Nat} {b s : Bytes} (hid : H[id]? = some (.mp (.bld (ρ.t 72) (ρ.t 5) b)))
    (hlen : b.length + s.length ≤ 140737488355328) (hH : ∀ (i : Nat) (x : AObj), H[i]? = some x → x ≠ .dead → i = id) (hk : ∀ (i n : Nat), k[i]? = some n → n = 0) :
    FnW E P (ρ.f 166) [.ptr id 0, .str s] H k (.tup [.int .i64 (s.length : Int), .nili]) none (H.set id (.mp (.bld (ρ.t 72) (ρ.t 5) (b ++ s)))) k := by
  refine ⟨⟨_, L.f166, by kernel_rfl, rfl⟩, List.length_set .., Nat.le_refl _, fun B G w vals hg hN hl hr => ?_⟩
  have hobj : RepObj G w id (some (.mp (.bld (ρ.t 72) (ρ.t 5) b))) := by
    have := hN (.obj id) (wLocs_obj.2 ⟨_, hid, by simp⟩)
    simp only [RepH, hid] at this
    exact this
  obtain ⟨g, i1, i2, i3, v, hb, hown, hvo⟩ := hobj
  obtain ⟨x, y, rfl⟩ : ∃ x y, vals = [x, y] := by
    match vals, hl with
    | [x, y], _ => exact ⟨x, y, rfl⟩
  have r0 := (hr 0 _ _ rfl rfl).1
  have r1 := (hr 1 _ _ rfl rfl).1
  cases r0 with | ptr _ _ _ g' hg' =>
  rw [i1] at hg'
  injection hg' with hg'
  subst hg'
  cases r1 with | str _ _ hs =>
  have hsz : (⟨s.toArray⟩ : ByteArray).size = s.length := by simp [ByteArray.size]
  have hcells : (s.map fun b => Value.int .u8 b.toNat) = Lib.strCells ⟨s.toArray⟩ := by simp [Lib.strCells]
  refine (bld_WriteString L X g v (b.map fun b => Value.int .u8 b.toNat) ⟨s.toArray⟩ w ⟨hb, by simpa using hown⟩ (by simpa [hsz] using hlen)).mono ?_
  rintro e w' ⟨rfl, v', ⟨hb', hown'⟩, ⟨o1, o2, o3, o4⟩, hblk, hnew, hgw⟩
  have hglt : ∀ k i, G.O k = some i → k < w.heap.size := fun k i hi => (hg.own k i hi).1
  have hv'lt : ∀ k, v'.ownBlock = some k → k < w'.heap.size := fun k hk => (hown'.lt k hk).2
  let G' : Gh := { G with O := fun k => if w.heap.size ≤ k ∧ v'.ownBlock = some k then some (.inl id) else G.O k }
  have hO1 : ∀ k i, G.O k = some i → G'.O k = some i := fun k i hi => by
    show (if _ then _ else _) = _
    rw [if_neg (fun h => by have := hglt k i hi; omega)]; exact hi
  have hsame : ∀ k, k < w.heap.size → G.O k ≠ some (.inl id) → w'.heap[k]? = w.heap[k]? := fun k hk hn => hblk k hk (fun e => hn (e ▸ i2)) (fun e => hn (hvo k e.symm).1)
  have hcell : ∀ b o, G.F b o → w'.cell? ⟨b, o, none⟩ = w.cell? ⟨b, o, none⟩ := fun b o hb => cell_congr (hblk b (hg.fin b o hb) (fun e => i3 o (e ▸ hb)) (fun e => (hvo b e.symm).2 o hb))
  have hx : Ext G w G' w' := ⟨fun _ _ x => x, fun _ _ x => x, fun _ _ x => x, hcell, hgw⟩
  have hgood : Good E B G' w' := hg.step o4 (fun k hk hn => hsame k hk (by rw [hn]; simp)) hcell (fun _ _ x => x) (fun k o hb => ⟨by have := hg.fin k o hb; omega, .inl hb⟩) (fun k i hi => by
    have hi' : (if w.heap.size ≤ k ∧ v'.ownBlock = some k then some (Sum.inl id) else G.O k) = some i := hi
    split at hi'
    · rename_i h; exact ⟨hv'lt k h.2, .inl h.1⟩
    · exact ⟨by have := hglt k i hi'; omega, .inr (by rw [hi']; simp)⟩) o1 o2 o3 hx
  have hloc := onlyO hH hk
  refine ⟨_, G', rfl, hgood, ⟨hx, fun i c hi hc => ?_, fun i c _ hc => ?_⟩, ⟨?_, trivial⟩, fun l hl => ?_⟩
  · have hne : i ≠ id := fun e => hi (wLocs_obj.2 ⟨_, by rw [e]; exact hid, by simp⟩)
    exact hc.keep hx (fun h => h) fun g2 hg2 => ⟨hO1 _ _ hg2, hsame g2 (hglt _ _ hg2) (by rw [hg2]; simpa using hne), fun _ h => h⟩
  · exact hc.keep hx (fun h => h) fun g2 hg2 => ⟨hO1 _ _ hg2, hsame g2 (hglt _ _ hg2) (by rw [hg2]; simp), fun _ h => h⟩
  · rw [hsz]
    refine .tup _ [_, _] [_, _] rfl fun i v c hv hc => ?_
    match i, hv, hc with
    | 0, hv, hc => cases hv; cases hc; exact .int _ _ _ (i64_len hs)
    | 1, hv, hc => cases hv; cases hc; exact .nili _
  · rw [hloc l hl]
    show RepObj G' w' id (H.set id _)[id]?
    have hlt : id < H.length := (List.getElem?_eq_some_iff.1 hid).1
    rw [List.getElem?_set_self hlt]
    refine ⟨g, i1, hO1 _ _ i2, i3, v', hb', ?_, fun k hk => ?_⟩
    · rw [List.map_append, hcells]
      have : (b ++ s).length = (b.map (fun b => Value.int .u8 b.toNat) ++ Lib.strCells ⟨s.toArray⟩).length := by simp [Lib.strCells_length, hsz]
      rw [this]
      exact hown'
    · rcases hnew k hk with h | h
      · exact ⟨hO1 _ _ (hvo k h).1, (hvo k h).2⟩
      · refine ⟨?_, fun x hx => by have := hg.fin k x hx; omega⟩
        show (if _ then _ else _) = _
        rw [if_pos ⟨h, hk⟩]
theorem FnW.bldString {E : Env} {P : Program} {ρ : Ren} (L : Lays.n169 P ρ) (X : Builder.Extra P ρ) {H : List AObj} {k : List Nat} {id : Nat} {b : Bytes} (hid : H[id]? = some (.mp (.bld (ρ.t 72) (ρ.t 5) b)))
    (hlen : b.length ≤ 140737488355328) (hH : ∀ (i : Nat) (x : AObj), H[i]? = some x → x ≠ .dead → i = id) (hk : ∀ (i n : Nat), k[i]? = some n → n = 0) :
    FnW E P (ρ.f 169) [.ptr id 0] H k (.str b) none (H.set id .dead) k := by
  refine ⟨⟨_, L.f169, by kernel_rfl, rfl⟩, List.length_set .., Nat.le_refl _, fun B G w vals hg hN hl hr => ?_⟩
  have hobj : RepObj G w id (some (.mp (.bld (ρ.t 72) (ρ.t 5) b))) := by
    have := hN (.obj id) (wLocs_obj.2 ⟨_, hid, by simp⟩)
    simp only [RepH, hid] at this
    exact this
  obtain ⟨g, i1, i2, i3, v, hb, hown, hvo⟩ := hobj
  obtain ⟨x, rfl⟩ : ∃ x, vals = [x] := by
    match vals, hl with
    | [x], _ => exact ⟨x, rfl⟩
  have r0 := (hr 0 _ _ rfl rfl).1
  cases r0 with | ptr _ _ _ g' hg' =>
  rw [i1] at hg'
  injection hg' with hg'
  subst hg'
  refine (bld_String L X g v b w ⟨hb, by simpa [Lib.byteCells] using hown⟩).mono ?_
  rintro e w' ⟨rfl, hgr, hgw⟩
  have hglt : ∀ k i, G.O k = some i → k < w.heap.size := fun k i hi => (hg.own k i hi).1
  have hsame : ∀ k, k < w.heap.size → G.O k ≠ some (.inl id) → w'.heap[k]? = w.heap[k]? := fun k hk hn => hgr.block k hk (fun e => hn (hvo k e.symm).1)
  have hcell : ∀ b o, G.F b o → w'.cell? ⟨b, o, none⟩ = w.cell? ⟨b, o, none⟩ := fun b o hb => cell_congr (hgr.block b (hg.fin b o hb) (fun e => (hvo b e.symm).2 o hb))
  have hx : Ext G w G w' := ⟨fun _ _ x => x, fun _ _ x => x, fun _ _ x => x, hcell, hgw⟩
  have hgood : Good E B G w' := hg.step hgr.size (fun k hk hn => hsame k hk (by rw [hn]; simp)) hcell (fun _ _ x => x) (fun k o hb => ⟨by have := hg.fin k o hb; have := hgr.size; omega, .inl hb⟩) (fun k i hi => ⟨by have := hglt k i hi; have := hgr.size; omega, .inr (by rw [hi]; simp)⟩) hgr.os hgr.tape hgr.output hx
  have hloc := onlyO hH hk
  refine ⟨_, G, rfl, hgood, ⟨hx, fun i c hi hc => ?_, fun i c _ hc => ?_⟩, ⟨?_, trivial⟩, fun l hl => ?_⟩
  · have hne : i ≠ id := fun e => hi (wLocs_obj.2 ⟨_, by rw [e]; exact hid, by simp⟩)
    exact hc.keep hx (fun h => h) fun g2 hg2 => ⟨hg2, hsame g2 (hglt _ _ hg2) (by rw [hg2]; simpa using hne), fun _ h => h⟩
  · exact hc.keep hx (fun h => h) fun g2 hg2 => ⟨hg2, hsame g2 (hglt _ _ hg2) (by rw [hg2]; simp), fun _ h => h⟩
  · exact .str _ _ (by unfold maxLen; omega)
  · rw [hloc l hl]
    show RepObj G w' id (H.set id _)[id]?
    have hlt : id < H.length := (List.getElem?_eq_some_iff.1 hid).1
    rw [List.getElem?_set_self hlt]
    trivial
theorem maskH_one {id : Nat} {H : List AObj} {x : AObj} (hx : H[id]? = some x) : (maskH [id] 0 H)[id]? = some x ∧ ∀ (i : Nat) (y : AObj), (maskH [id] 0 H)[i]? = some y → y ≠ .dead → i = id := by
  have key : ∀ (l : List AObj) (s i : Nat), (maskH [id] s l)[i]? = l[i]?.map fun x => bif Nat.beq id (s + i) then x else .dead := by
    intro l
    induction l with
    | nil => intro s i; simp [maskH]
    | cons a l ih =>
      intro s i
      cases i with
      | zero => simp only [maskH, List.getElem?_cons_zero, Option.map_some, Nat.add_zero, List.contains, List.elem, Option.some.injEq]; cases hh : (s == id) with
        | true => have : Nat.beq id s = true := by rw [Nat.beq_eq]; simpa using (beq_iff_eq.1 hh).symm
                  rw [this]
        | false => have : Nat.beq id s = false := by rw [← Bool.not_eq_true, Nat.beq_eq]; intro e; simp [e] at hh
                   rw [this]
      | succ i => simp only [maskH, List.getElem?_cons_succ]; rw [ih]; simp only [Nat.add_assoc, Nat.add_comm 1 i]
  refine ⟨by rw [key, hx]; simp, fun i y hy hd => ?_⟩
  rw [key] at hy
  cases hh : H[i]? with
  | none => rw [hh] at hy; cases hy
  | some z =>
    rw [hh] at hy
    simp only [Option.map_some, Option.some.injEq, Nat.zero_add] at hy
    cases hb : Nat.beq id i with
    | true => exact (Nat.eq_of_beq_eq_true hb).symm
    | false => rw [hb] at hy; exact absurd hy.symm hd
theorem maskK_none {k : List Nat} : ∀ (i n : Nat), (maskK [] 0 k)[i]? = some n → n = 0 := by
  have key : ∀ (l : List Nat) (s i n : Nat), (maskK [] s l)[i]? = some n → n = 0 := by
    intro l
    induction l with
    | nil => intro s i n h; simp [maskK] at h
    | cons a l ih =>
      intro s i n h
      cases i with
      | zero => simp [maskK, List.contains, List.elem] at h; exact h.symm
      | succ i => simp only [maskK, List.getElem?_cons_succ] at h; exact ih _ _ _ h
  exact key k 0
theorem CallH.bldW {E : Env} {P : Program} {ρ : Ren} {st : St} {f : FuncId} {N0 : List Loc} {k : KH} {tas : List (Option Nat)} (L : Lays.n166 P ρ) (X : Builder.Extra P ρ) (id : Nat) (b s : Bytes) (hf : ρ.f 166 = f) (T e : TypeId) (hT : ρ.t 72 = T) (he : ρ.t 5 = e) (H2 : List AObj) (k2 : List Nat)
    (hid : st.H[id]? = some (.mp (.bld T e b))) (hlen : b.length + s.length ≤ 140737488355328)
    (eH : mergeH st.H (maskH [id] 0 st.H) ((maskH [id] 0 st.H).set id (.mp (.bld T e (b ++ s)))) = H2) (eK : mergeK st.k (maskK [] 0 st.k) (maskK [] 0 st.k) = k2)
    (hk : k (.tup [.int .i64 (s.length : Int), .nili]) none H2 k2 (N0 ++ wLocs (maskH [id] 0 st.H) (maskK [] 0 st.k) ((maskK [] 0 st.k).length - (maskK [] 0 st.k).length)) (wLocs (maskH [id] 0 st.H) (maskK [] 0 st.k) ((maskK [] 0 st.k).length - (maskK [] 0 st.k).length))) : CallH E P st f [.ptr id 0, .str s] N0 k tas := by
  subst hf; subst hT; subst he
  refine .objs [id] [] [] rfl _ none _ _ (FnW.bldWrite L X (maskH_one hid).1 hlen (maskH_one hid).2 maskK_none) ?_
  rw [eH, eK]; exact hk
theorem CallH.bldS {E : Env} {P : Program} {ρ : Ren} {st : St} {f : FuncId} {N0 : List Loc} {k : KH} {tas : List (Option Nat)} (L : Lays.n169 P ρ) (X : Builder.Extra P ρ) (id : Nat) (b : Bytes) (hf : ρ.f 169 = f) (T e : TypeId) (hT : ρ.t 72 = T) (he : ρ.t 5 = e) (H2 : List AObj) (k2 : List Nat)
    (hid : st.H[id]? = some (.mp (.bld T e b))) (hlen : b.length ≤ 140737488355328)
    (eH : mergeH st.H (maskH [id] 0 st.H) ((maskH [id] 0 st.H).set id .dead) = H2) (eK : mergeK st.k (maskK [] 0 st.k) (maskK [] 0 st.k) = k2)
    (hk : k (.str b) none H2 k2 (N0 ++ wLocs (maskH [id] 0 st.H) (maskK [] 0 st.k) ((maskK [] 0 st.k).length - (maskK [] 0 st.k).length)) (wLocs (maskH [id] 0 st.H) (maskK [] 0 st.k) ((maskK [] 0 st.k).length - (maskK [] 0 st.k).length))) : CallH E P st f [.ptr id 0] N0 k tas := by
  subst hf; subst hT; subst he
  refine .objs [id] [] [] rfl _ none _ _ (FnW.bldString L X (maskH_one hid).1 hlen (maskH_one hid).2 maskK_none) ?_
  rw [eH, eK]; exact hk
end Go.Pm
