/-
  A strings.Builder of the call's own: what WriteString and String leave of all memory (the shelf's contracts say it of what lies below a bound alone): lines of the kit's own proofs, turned to say more.
-/
import Derived.Shelf.Strings.Builder1
import Derived.Test.YtommkfooolabhaaGreatDoorPm4
namespace Go.Pm
open Go Go.RowKit Go.Shelf Go.Proofs
set_option linter.unusedSimpArgs false
set_option linter.unusedVariables false
variable {P : Program} {ρ : Ren}
theorem run_append_own_string' (w : World) (base : Nat) (t u ty e : TypeId) (i : TypeInfo) (ht : P.underlying t = some (.slice e)) (hu : P.underlying u = some .string) (hi : P.info? e = some i) (hz : i.zero = some (.int .u8 0))
    (hsize : i.size = 1) (hby : i.bytes = 1)
    (v : Value) (n : Nat) (xs : List Value) (hown : w.ownsRow base e 1 v n xs) (s : ByteArray)
    (h63 : n + s.size ≤ maxLen) (hbytes : n + s.size ≤ 140737488355328) (hbase : base ≤ w.heap.size) :
    ∃ v' w', (Builtin.append_ #[t, u] ty #[v, .string s]).run P w = .ok v' w' ∧ w'.ownsRow base e 1 v' (n + s.size) (xs ++ Lib.strCells s) ∧ w.grownBy w' v.ownBlock ∧
      (∀ k, v'.ownBlock = some k → v.ownBlock = some k ∨ w.heap.size ≤ k) ∧ ∀ k, Grows w w' k := by
  obtain ⟨v', w', hr, h1, h2, h3⟩ := Lib.run_append_own_string (P := P) w base t u ty e i ht hu hi hz hsize hby v n xs hown s h63 hbytes hbase
  refine ⟨v', w', hr, h1, h2, fun k hk => ?_, ?_⟩
  have hxl : xs.length = n := by simpa using hown.1
  rcases hown.2 with ⟨rfl, rfl⟩ | ⟨g, cap, cur, rfl, hbg, hg, hnc, hcm, hcs, htake⟩
  · obtain ⟨v2, w2, hr2, h4, _, _⟩ := Lib.run_append_own_string (P := P) w w.heap.size t u ty e i ht hu hi hz hsize hby _ 0 xs ⟨by simpa using hxl, .inl ⟨rfl, rfl⟩⟩ s h63 hbytes (Nat.le_refl _)
    rw [hr] at hr2
    injection hr2 with e1 e2
    subst e1; subst e2
    exact .inr (h4.lt k hk).1
  · by_cases hroom : n + s.size ≤ cap
    · have hcc : cur.size = cap := by simpa using hcs
      have hr2 := Lib.run_append_room_string (P := P) w t u ty e i ht hu hi hsize g n cap cur hg s hroom (by omega)
      rw [hr] at hr2
      injection hr2 with e1 e2
      subst e1
      exact .inl hk
    · have holds : ∀ j u, xs[j]? = some u → w.cell? ((⟨g, 0, none⟩ : Addr).add j) = some u := hown.cells (g := g) rfl
      have hr2 := Lib.run_append_grow_string (P := P) w t u ty e i (.int .u8 0) ht hu hi hz ⟨g, 0, none⟩ n cap xs (by rw [hsize]; simpa using hxl) holds s (by omega) (by unfold maxLen at h63; omega) (by rw [hby]; exact growslice_fits (by omega) (by omega))
      rw [hr] at hr2
      injection hr2 with e1 e2
      subst e1
      simp only [Value.ownBlock, Option.some.injEq] at hk
      exact .inr (by omega)
  have hxl : xs.length = n := by simpa using hown.1
  rcases hown.2 with ⟨rfl, rfl⟩ | ⟨g, cap, cur, rfl, hbg, hg, hnc, hcm, hcs, htake⟩
  · exact grows_old fun k hk => h2.block k hk (by simp [Value.ownBlock])
  · by_cases hroom : n + s.size ≤ cap
    · have hr2 := Lib.run_append_room_string (P := P) w t u ty e i ht hu hi hsize g n cap cur hg s hroom (by omega)
      rw [hr] at hr2
      injection hr2 with e1 _
      rcases h1.2 with ⟨hv, _⟩ | ⟨g', cap', cur', hv, _, hg', _, _, hcs', _⟩
      · rw [e1] at hv; cases hv
      · rw [e1] at hv
        cases hv
        rintro k m ⟨vals, tt, fz, q1, q2⟩
        by_cases hk : k = g
        · subst hk
          rw [hg] at q1
          cases q1
          exact ⟨_, _, _, hg', by omega⟩
        · exact ⟨vals, tt, fz, (h2.block k (Array.getElem?_eq_some_iff.1 q1).1 (by simpa [Value.ownBlock] using hk)).trans q1, q2⟩
    · have holds : ∀ j u, xs[j]? = some u → w.cell? ((⟨g, 0, none⟩ : Addr).add j) = some u := hown.cells (g := g) rfl
      have hr2 := Lib.run_append_grow_string (P := P) w t u ty e i (.int .u8 0) ht hu hi hz ⟨g, 0, none⟩ n cap xs (by rw [hsize]; simpa using hxl) holds s (by omega) (by unfold maxLen at h63; omega) (by rw [hby]; exact growslice_fits (by omega) (by omega))
      rw [hr] at hr2
      injection hr2 with _ e2
      rw [e2]
      refine grows_old fun k hk => ?_
      simp only [World.alloc, World.drew, Array.getElem?_push]
      rw [if_neg (by omega)]
theorem wpList_append_own_string' {ops : Array Oper} {rest : List Oper} {o : Oper} {a : Act} {w : World} {Q : Exit → Act → World → Prop} (hgd : o.guard = none) (sl x : Operand) (t u : TypeId)
    (ho : o.op = .call { callee := .builtin .append, args := #[sl, x], argTypes := #[t, u] })
    (base : Nat) (e : TypeId) (i : TypeInfo) (ht : P.underlying t = some (.slice e)) (hu : P.underlying u = some .string) (hi : P.info? e = some i) (hz : i.zero = some (.int .u8 0))
    (hsize : i.size = 1) (hby : i.bytes = 1)
    (v : Value) (n : Nat) (xs : List Value) (hs : a.eval sl = v) (hown : w.ownsRow base e 1 v n xs) (s : ByteArray) (hx : a.eval x = .string s)
    (h63 : n + s.size ≤ maxLen) (hbytes : n + s.size ≤ 140737488355328) (hbase : base ≤ w.heap.size)
    (h : ∀ v' w', w'.ownsRow base e 1 v' (n + s.size) (xs ++ Lib.strCells s) → w.grownBy w' v.ownBlock → (∀ k, v'.ownBlock = some k → v.ownBlock = some k ∨ w.heap.size ≤ k) → (∀ k, Grows w w' k) → wpList P ops Q rest (a.put o.dst v') w') : wpList P ops Q (o :: rest) a w := by
  refine wpList_plain hgd fun K hK => ?_
  obtain ⟨v', w', hr, h2, h3, h4, h5⟩ := run_append_own_string' (P := P) w base t u o.type e i ht hu hi hz hsize hby v n xs hown s h63 hbytes hbase
  unfold Oper.wp execOp
  simp only [ho, resolve, invoke, builtin, Sem.run_bind, Sem.run_pure, Result.andThen_ok, List.map_toArray, List.map_cons, List.map_nil, hs, hx, hr]
  exact hK _ _ (h v' w' h2 h3 h4 h5)
def BldAt (T e : TypeId) (b : Nat) (v : Value) (bs : List Value) (w : World) : Prop :=
  (∃ p, w.heap[b]? = some (.cells #[p, v] T (0, 0)) ∧ (p = .pointer none ∨ p = .pointer (some ⟨b, 0, none⟩))) ∧ w.ownsRow 0 e 1 v bs.length bs
theorem bld_copyCheck (L : Lays.n240 P ρ) (X : Builder.X72 P ρ) (b : Nat) (v : Value) (bs : List Value) (w : World) (h : BldAt (ρ.t 72) (ρ.t 5) b v bs w) (hne : v.ownBlock ≠ some b) :
    Calls P (ρ.f 240) #[.pointer (some ⟨b, 0, none⟩)] w fun e w' => e = .returned (.tuple #[]) ∧ w'.heap[b]? = some (.cells #[.pointer (some ⟨b, 0, none⟩), v] (ρ.t 72) (0, 0)) ∧ w'.ownsRow 0 (ρ.t 5) 1 v bs.length bs ∧ w.grownBy w' (some b) ∧ w'.heap.size = w.heap.size ∧ ∀ k, Grows w w' k := by
  obtain ⟨⟨p, hb, hp⟩, hown⟩ := h
  rcases hp with rfl | rfl
  · refine (Any.Builder_copyCheck_fresh L X b w (by rw [Lib.cell_of_heap hb]; rfl) (by simp [World.shape?, hb]) (Lib.frozen_of_heap hb 0)).mono ?_
    rintro e w' ⟨rfl, rfl⟩
    have hg : w.grownBy (w.setCell ⟨b, 0, none⟩ (.pointer (some ⟨b, 0, none⟩))) (some b) := ⟨rfl, rfl, rfl, by simp [World.setCell], fun k _ hk => Below.heap_setCell _ _ _ _ (fun e => hk (by simp [e]))⟩
    have hb' : (w.setCell ⟨b, 0, none⟩ (.pointer (some ⟨b, 0, none⟩))).heap[b]? = some (.cells #[.pointer (some ⟨b, 0, none⟩), v] (ρ.t 72) (0, 0)) := by simp [World.setCell, Array.getElem?_modify, hb]
    exact ⟨rfl, hb', hown.kept hg (Or.inr hne), hg, by simp [World.setCell], grows_one (fun k hk => Below.heap_setCell _ _ _ _ hk) hb hb' rfl⟩
  · refine (Any.Builder_copyCheck_used L X b w (by rw [Lib.cell_of_heap hb]; rfl)).mono ?_
    rintro e w' ⟨rfl, rfl⟩
    exact ⟨rfl, hb, hown, ⟨rfl, rfl, rfl, Nat.le_refl _, fun _ _ _ => rfl⟩, rfl, fun _ _ h => h⟩
set_option maxHeartbeats 2000000 in
set_option maxRecDepth 100000 in
theorem bld_WriteString (L : Lays.n166 P ρ) (X : Builder.Extra P ρ) (b : Nat) (v : Value) (bs : List Value) (s : ByteArray) (w : World) (h : BldAt (ρ.t 72) (ρ.t 5) b v bs w) (hlen : bs.length + s.size ≤ 140737488355328) :
    Calls P (ρ.f 166) #[.pointer (some ⟨b, 0, none⟩), .string s] w fun e w' => e = .returned (.tuple #[.int .i64 s.size, .nilIface]) ∧ ∃ v', BldAt (ρ.t 72) (ρ.t 5) b v' (bs ++ Lib.strCells s) w' ∧
      (w'.os = w.os ∧ w'.tape = w.tape ∧ w'.output = w.output ∧ w.heap.size ≤ w'.heap.size) ∧ (∀ k, k < w.heap.size → k ≠ b → some k ≠ v.ownBlock → w'.heap[k]? = w.heap[k]?) ∧ (∀ k, v'.ownBlock = some k → v.ownBlock = some k ∨ w.heap.size ≤ k) ∧ ∀ k, Grows w w' k := by
  obtain ⟨i0, hi, hz0, hz1, hz2⟩ := info_parts X.infoByte
  have hne : v.ownBlock ≠ some b := by obtain ⟨⟨p, hb, _⟩, hown⟩ := h; exact Lib.ownBlock_ne hown hb X.neB5
  have mixed := L.mixed
  have t72 := L.t72; have a72 := L.a72; have z72 := L.z72; have v72 := L.v72; have u72 := run_underlying L.t72
  have t70 := L.t70; have a70 := L.a70; have z70 := L.z70; have v70 := L.v70; have u70 := run_underlying L.t70
  have t37 := L.t37; have a37 := L.a37; have z37 := L.z37; have v37 := L.v37; have u37 := run_underlying L.t37
  have t3 := L.t3; have a3 := L.a3; have z3 := L.z3; have v3 := L.v3; have u3 := run_underlying L.t3
  have t9 := L.t9; have a9 := L.a9; have z9 := L.z9; have v9 := L.v9; have u9 := run_underlying L.t9
  have t4 := L.t4; have a4 := L.a4; have z4 := L.z4; have v4 := L.v4; have u4 := run_underlying L.t4
  have t164 := L.t164; have a164 := L.a164; have z164 := L.z164; have v164 := L.v164; have u164 := run_underlying L.t164
  have t5 := X.t5; have a5 := X.a5; have z5 := X.z5; have v5 := X.v5; have u5 := run_underlying X.t5
  have e240 : ∀ args w, (callFunc (ρ.f 240) args).run P w = .ok (.enter (ρ.f 240) args) w := enters_of L.f240 (by kernel_rfl) rfl
  go_enter L.f166, Body.n166_ntmps ρ
  go_wp2_with (go_at_fn (ρ.f 240); refine (bld_copyCheck { L with } X.toX72 b v bs _ h hne).mono ?_)
  rintro e w1 ⟨rfl, hbk, hown, hg1, hs1, hgw1⟩
  have c0 : w1.cell? ⟨b, 0, none⟩ = some (.pointer (some ⟨b, 0, none⟩)) := by rw [Lib.cell_of_heap hbk]; rfl
  have c1 : w1.cell? ⟨b, 1, none⟩ = some v := by rw [Lib.cell_of_heap hbk]; rfl
  go_wp2_with (at_builtin; refine wpList_append_own_string' rfl _ _ (ρ.t 37) (ρ.t 9) rfl 0 (ρ.t 5) i0 L.t37 L.t9 hi hz0 hz1 hz2 _ _ _ rfl hown s rfl ?c3 ?c4 ?c5 ?_)
  case c3 => unfold maxLen; omega
  case c4 => omega
  case c5 => omega
  intro v' w2 hown' hgrow hnew hgw2
  have hlt : b < w1.heap.size := by
    rcases Nat.lt_or_ge b w1.heap.size with h' | h'
    · exact h'
    · simp [Array.getElem?_eq_none h'] at hbk
  have hb2 : w2.heap[b]? = some (.cells #[.pointer (some ⟨b, 0, none⟩), v] (ρ.t 72) (0, 0)) := by
    rw [hgrow.block b hlt (fun e => hne e.symm)]
    exact hbk
  have d0 : w2.cell? ⟨b, 0, none⟩ = some (.pointer (some ⟨b, 0, none⟩)) := by rw [Lib.cell_of_heap hb2]; rfl
  have d1 : w2.cell? ⟨b, 1, none⟩ = some v := by rw [Lib.cell_of_heap hb2]; rfl
  have f1 : w2.frozen? ⟨b, 1, none⟩ = false := Lib.frozen_of_heap hb2 1
  have hfin : BldAt (ρ.t 72) (ρ.t 5) b v' (bs ++ Lib.strCells s) (w2.setCell ⟨b, 1, none⟩ v') := by
    have hg3 : w2.grownBy (w2.setCell ⟨b, 1, none⟩ v') (some b) := ⟨rfl, rfl, rfl, by simp [World.setCell], fun k _ hk => Below.heap_setCell _ _ _ _ (fun e => hk (by simp [e]))⟩
    refine ⟨⟨_, by simp [World.setCell, Array.getElem?_modify, hb2], .inr rfl⟩, ?_⟩
    rw [List.length_append, Lib.strCells_length]
    exact hown'.kept hg3 (Or.inr (Lib.ownBlock_ne hown' hb2 X.neB5))
  have hrest : (w2.setCell ⟨b, 1, none⟩ v').os = w.os ∧ (w2.setCell ⟨b, 1, none⟩ v').tape = w.tape ∧ (w2.setCell ⟨b, 1, none⟩ v').output = w.output ∧ w.heap.size ≤ (w2.setCell ⟨b, 1, none⟩ v').heap.size :=
    ⟨hgrow.os.trans hg1.os, hgrow.tape.trans hg1.tape, hgrow.output.trans hg1.output, by have := hgrow.size; simp [World.setCell]; omega⟩
  have hblk : ∀ k, k < w.heap.size → k ≠ b → some k ≠ v.ownBlock → (w2.setCell ⟨b, 1, none⟩ v').heap[k]? = w.heap[k]? := fun k hk hkb hkv =>
    (Below.heap_setCell _ _ _ _ hkb).trans ((hgrow.block k (by omega) hkv).trans (hg1.block k hk (fun e => hkb (by injection e))))
  have hnew' : ∀ k, v'.ownBlock = some k → v.ownBlock = some k ∨ w.heap.size ≤ k := fun k hk => (hnew k hk).imp id (fun h => by omega)
  have hgw : ∀ k, Grows w (w2.setCell ⟨b, 1, none⟩ v') k := fun k n hn => grows_one (b := b) (fun k hk => Below.heap_setCell _ _ _ _ hk) hb2 (vals' := #[.pointer (some ⟨b, 0, none⟩), v']) (by simp [World.setCell, Array.getElem?_modify, hb2]) rfl k n (hgw2 k n (hgw1 k n hn))
  have HID : Hid (BldAt (ρ.t 72) (ρ.t 5) b v' (bs ++ Lib.strCells s) (w2.setCell ⟨b, 1, none⟩ v') ∧ ((w2.setCell ⟨b, 1, none⟩ v').os = w.os ∧ (w2.setCell ⟨b, 1, none⟩ v').tape = w.tape ∧ (w2.setCell ⟨b, 1, none⟩ v').output = w.output ∧ w.heap.size ≤ (w2.setCell ⟨b, 1, none⟩ v').heap.size) ∧
    (∀ k, k < w.heap.size → k ≠ b → some k ≠ v.ownBlock → (w2.setCell ⟨b, 1, none⟩ v').heap[k]? = w.heap[k]?) ∧ (∀ k, v'.ownBlock = some k → v.ownBlock = some k ∨ w.heap.size ≤ k) ∧ ∀ k, Grows w (w2.setCell ⟨b, 1, none⟩ v') k) := ⟨hfin, hrest, hblk, hnew', hgw⟩
  clear hfin hrest hblk hnew' hnew hgw hgw1 hgw2
  obtain ⟨ao, n', cap, rfl⟩ : ∃ ao n' cap, v' = .slice ao n' cap := by
    rcases hown'.2 with ⟨hv, _⟩ | ⟨g, cap, cur, hv, _⟩
    · exact ⟨_, _, _, hv⟩
    · exact ⟨_, _, _, hv⟩
  go_wp2
  go_ret2
  exact ⟨rfl, _, HID.out⟩
set_option maxHeartbeats 1000000 in
set_option maxRecDepth 100000 in
theorem bld_String (L : Lays.n169 P ρ) (X : Builder.Extra P ρ) (b : Nat) (v : Value) (l : List UInt8) (w : World) (h : BldAt (ρ.t 72) (ρ.t 5) b v (Lib.byteCells l) w) :
    Calls P (ρ.f 169) #[.pointer (some ⟨b, 0, none⟩)] w fun e w' => e = .returned (.string ⟨l.toArray⟩) ∧ w.grownBy w' v.ownBlock ∧ ∀ k, Grows w w' k := by
  have hne : v.ownBlock ≠ some b := by obtain ⟨⟨p, hb, _⟩, hown⟩ := h; exact Lib.ownBlock_ne hown hb X.neB5
  obtain ⟨⟨p, hbk, hp⟩, hown⟩ := h
  by_cases hl : l = []
  · subst hl
    rcases hown.2 with ⟨rfl, _⟩ | ⟨g, cap, cur, rfl, hbg, hg, _, _, _, _⟩
    · refine (Any.Builder_String_nil L X w.heap.size b p w hbk).mono ?_
      rintro e w' ⟨rfl, h⟩
      exact ⟨rfl, ⟨h.os, h.tape, h.output, h.size, fun k hk _ => h.block k hk⟩, grows_old h.block⟩
    · by_cases hc0 : cap = 0
      · subst hc0
        refine (Any.Builder_String_noroom L X w.heap.size b g p cur w (Nat.le_refl _) hbk hg).mono ?_
        rintro e w' ⟨rfl, h⟩
        exact ⟨rfl, ⟨h.os, h.tape, h.output, h.size, fun k hk _ => h.block k hk⟩, grows_old h.block⟩
      · refine (Any.Builder_String_room L X w.heap.size b g cap p w hc0 hbk).mono ?_
        rintro e w' ⟨rfl, h⟩
        exact ⟨rfl, ⟨h.os, h.tape, h.output, h.size, fun k hk _ => h.block k hk⟩, grows_old h.block⟩
  have hl0 : l.length ≠ 0 := by simpa using hl
  rw [Lib.byteCells_length] at hown
  obtain ⟨g, cap, cur, rfl, hg, hnc, hcm, hcs, htake⟩ : ∃ g cap cur, v = .slice (some ⟨g, 0, none⟩) l.length cap ∧ w.heap[g]? = some (.cells cur (ρ.t 5) (0, 0)) ∧ l.length ≤ cap ∧ cap ≤ maxLen ∧ cur.size = cap * 1 ∧ cur.toList.take (l.length * 1) = Lib.byteCells l := by
    rcases hown.2 with ⟨_, hz⟩ | ⟨g, cap, cur, hv, _, r⟩
    · exact absurd hz hl0
    · exact ⟨g, cap, cur, hv, r⟩
  have c1 : w.drew.cell? ⟨b, 1, none⟩ = some (.slice (some ⟨g, 0, none⟩) l.length cap) := by
    have : w.drew.heap[b]? = some (.cells #[p, .slice (some ⟨g, 0, none⟩) l.length cap] (ρ.t 72) (0, 0)) := hbk
    rw [Lib.cell_of_heap this]; rfl
  have hSD : (Builtin.unsafeSliceData_ #[(ρ.t 37)] (ρ.t 127) #[.slice (some ⟨g, 0, none⟩) l.length cap]).run P w.drew = .ok (.pointer (some ⟨g, 0, none⟩)) w.drew :=
    Lib.run_unsafeSliceData_row _ _ _ _ _ _ (by omega)
  have hUS : (Builtin.unsafeString_ #[(ρ.t 127), (ρ.t 3)] (ρ.t 9) #[.pointer (some ⟨g, 0, none⟩), .int .i64 l.length]).run P w.drew = .ok (.string ⟨l.toArray⟩) (w.drew.freeze ⟨g, 0, none⟩ l.length) := by
    refine Lib.run_unsafeString_row w.drew (ρ.t 127) (ρ.t 3) (ρ.t 9) (ρ.t 5) L.t127 X.cellsByte g cur.size (by have hg' : w.drew.heap[g]? = some (.cells cur (ρ.t 5) (0, 0)) := hg; simp [World.shape?, hg']) l hl (by omega) (by unfold maxLen at hcm; omega) ?_
    intro j x hx
    have := hown.cells (g := g) rfl j (.int .u8 x.toNat) (by simp [Lib.byteCells, hx])
    exact this
  have hend : w.grownBy (w.drew.freeze ⟨g, 0, none⟩ l.length) (some g) := by
    obtain ⟨k1, k2, k3, k4, k5⟩ := Lib.below_freeze (B := g) (Below.drew (Below.refl g w)) (p := ⟨g, 0, none⟩) (Nat.le_refl _) l.length
    refine ⟨k1, k2, k3, k4, fun k hk hkg => ?_⟩
    have : k ≠ g := fun e => hkg (by rw [e])
    unfold World.freeze
    split
    · rfl
    · show (Array.modify _ _ _)[k]? = _
      rw [Array.getElem?_modify, if_neg (fun e => this e.symm)]
      rfl
  have hgw : ∀ k, Grows w (w.drew.freeze ⟨g, 0, none⟩ l.length) k := by
    rintro k m ⟨vals, tt, fz, q1, q2⟩
    by_cases hk : k = g
    · subst hk
      rw [hg] at q1
      cases q1
      have hg' : w.drew.heap[k]? = some (.cells cur (ρ.t 5) (0, 0)) := hg
      unfold World.freeze
      split
      · exact ⟨_, _, _, hg', q2⟩
      · have hm : ∀ F, (Array.modify w.drew.heap k F)[k]? = (some (Obj.cells cur (ρ.t 5) (0, 0))).map F := fun F => by rw [Array.getElem?_modify, if_pos rfl, hg']
        exact ⟨_, _, _, hm _, q2⟩
    · exact ⟨vals, tt, fz, (hend.block k (Array.getElem?_eq_some_iff.1 q1).1 (by simpa using hk)).trans q1, q2⟩
  have HID : Hid (w.grownBy (w.drew.freeze ⟨g, 0, none⟩ l.length) (some g) ∧ ∀ k, Grows w (w.drew.freeze ⟨g, 0, none⟩ l.length) k) := ⟨hend, hgw⟩
  clear hend hgw
  have mixed := L.mixed
  have t72 := L.t72; have a72 := L.a72; have z72 := L.z72; have v72 := L.v72; have u72 := run_underlying L.t72
  have t70 := L.t70; have a70 := L.a70; have z70 := L.z70; have v70 := L.v70; have u70 := run_underlying L.t70
  have t37 := L.t37; have a37 := L.a37; have z37 := L.z37; have v37 := L.v37; have u37 := run_underlying L.t37
  have t127 := L.t127; have a127 := L.a127; have z127 := L.z127; have v127 := L.v127; have u127 := run_underlying L.t127
  have t3 := L.t3; have a3 := L.a3; have z3 := L.z3; have v3 := L.v3; have u3 := run_underlying L.t3
  have t9 := L.t9; have a9 := L.a9; have z9 := L.z9; have v9 := L.v9; have u9 := run_underlying L.t9
  have t5 := X.t5; have a5 := X.a5; have z5 := X.z5; have v5 := X.v5; have u5 := run_underlying X.t5
  go_enter L.f169, Body.n169_ntmps ρ
  go_wp2
  go_region_o
  all_goals (go_wp2; go_ret; exact ⟨rfl, HID.out⟩)
end Go.Pm
