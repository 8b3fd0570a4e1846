/-
  Generic: a call of a strings.Builder's Len.
-/
import Derived.Shelf.Strings.Builder1
import Derived.Test.YtpionnihpibglaaGreatDoorPm28
namespace Go.Pm
open Go Go.RowKit Go.Shelf Go.Proofs
set_option linter.unusedSimpArgs false
set_option linter.unusedVariables false
variable {P : Program} {ρ : Ren}
theorem run_append_own_string' (w : World) (base : Nat) (t u ty e : TypeId) (i : TypeInfo) (ht : P.underlying t = some (.slice e)) (hu : P.underlying u = some .string) (hi : P.info? e = some i) (hz : i.zero = some (.int .u8 0))
    (hsize : i.size = 1) (hby : i.bytes = 1)
    (v : Value) (n : Nat) (xs : List Value) (hown : w.ownsRow base e 1 v n xs) (s : ByteArray)
    (h63 : n + s.size ≤ maxLen) (hbytes : n + s.size ≤ 140737488355328) (hbase : base ≤ w.heap.size) :
    ∃ v' w', (Builtin.append_ #[t, u] ty #[v, .string s]).run P w = .ok v' w' ∧ w'.ownsRow base e 1 v' (n + s.size) (xs ++ Lib.strCells s) ∧ w.grownBy w' v.ownBlock ∧
      (∀ k, v'.ownBlock = some k → v.ownBlock = some k ∨ w.heap.size ≤ k) := by
  obtain ⟨v', w', hr, h1, h2, h3⟩ := Lib.run_append_own_string (P := P) w base t u ty e i ht hu hi hz hsize hby v n xs hown s h63 hbytes hbase
  refine ⟨v', w', hr, h1, h2, fun k hk => ?_⟩
  have hxl : xs.length = n := by simpa using hown.1
  rcases hown.2 with ⟨rfl, rfl⟩ | ⟨g, cap, cur, rfl, hbg, hg, hnc, hcm, hcs, htake⟩
  · obtain ⟨v2, w2, hr2, h4, _, _⟩ := Lib.run_append_own_string (P := P) w w.heap.size t u ty e i ht hu hi hz hsize hby _ 0 xs ⟨by simpa using hxl, .inl ⟨rfl, rfl⟩⟩ s h63 hbytes (Nat.le_refl _)
    rw [hr] at hr2
    injection hr2 with e1 e2
    subst e1; subst e2
    exact .inr (h4.lt k hk).1
  · by_cases hroom : n + s.size ≤ cap
    · have hcc : cur.size = cap := by simpa using hcs
      have hr2 := Lib.run_append_room_string (P := P) w t u ty e i ht hu hi hsize g n cap cur hg s hroom (by omega)
      rw [hr] at hr2
      injection hr2 with e1 e2
      subst e1
      exact .inl hk
    · have holds : ∀ j u, xs[j]? = some u → w.cell? ((⟨g, 0, none⟩ : Addr).add j) = some u := hown.cells (g := g) rfl
      have hr2 := Lib.run_append_grow_string (P := P) w t u ty e i (.int .u8 0) ht hu hi hz ⟨g, 0, none⟩ n cap xs (by rw [hsize]; simpa using hxl) holds s (by omega) (by unfold maxLen at h63; omega) (by rw [hby]; exact growslice_fits (by omega) (by omega))
      rw [hr] at hr2
      injection hr2 with e1 e2
      subst e1
      simp only [Value.ownBlock, Option.some.injEq] at hk
      exact .inr (by omega)
theorem wpList_append_own_string' {ops : Array Oper} {rest : List Oper} {o : Oper} {a : Act} {w : World} {Q : Exit → Act → World → Prop} (hgd : o.guard = none) (sl x : Operand) (t u : TypeId)
    (ho : o.op = .call { callee := .builtin .append, args := #[sl, x], argTypes := #[t, u] })
    (base : Nat) (e : TypeId) (i : TypeInfo) (ht : P.underlying t = some (.slice e)) (hu : P.underlying u = some .string) (hi : P.info? e = some i) (hz : i.zero = some (.int .u8 0))
    (hsize : i.size = 1) (hby : i.bytes = 1)
    (v : Value) (n : Nat) (xs : List Value) (hs : a.eval sl = v) (hown : w.ownsRow base e 1 v n xs) (s : ByteArray) (hx : a.eval x = .string s)
    (h63 : n + s.size ≤ maxLen) (hbytes : n + s.size ≤ 140737488355328) (hbase : base ≤ w.heap.size)
    (h : ∀ v' w', w'.ownsRow base e 1 v' (n + s.size) (xs ++ Lib.strCells s) → w.grownBy w' v.ownBlock → (∀ k, v'.ownBlock = some k → v.ownBlock = some k ∨ w.heap.size ≤ k) → wpList P ops Q rest (a.put o.dst v') w') : wpList P ops Q (o :: rest) a w := by
  refine wpList_plain hgd fun K hK => ?_
  obtain ⟨v', w', hr, h2, h3, h4⟩ := run_append_own_string' (P := P) w base t u o.type e i ht hu hi hz hsize hby v n xs hown s h63 hbytes hbase
  unfold Oper.wp execOp
  simp only [ho, resolve, invoke, builtin, Sem.run_bind, Sem.run_pure, Result.andThen_ok, List.map_toArray, List.map_cons, List.map_nil, hs, hx, hr]
  exact hK _ _ (h v' w' h2 h3 h4)
def BldAt (T e : TypeId) (b : Nat) (v : Value) (bs : List Value) (w : World) : Prop :=
  (∃ p, w.heap[b]? = some (.cells #[p, v] T (0, 0)) ∧ (p = .pointer none ∨ p = .pointer (some ⟨b, 0, none⟩))) ∧ w.ownsRow 0 e 1 v bs.length bs
theorem bld_copyCheck (L : Lays.n240 P ρ) (X : Builder.X72 P ρ) (b : Nat) (v : Value) (bs : List Value) (w : World) (h : BldAt (ρ.t 72) (ρ.t 5) b v bs w) (hne : v.ownBlock ≠ some b) :
    Calls P (ρ.f 240) #[.pointer (some ⟨b, 0, none⟩)] w fun e w' => e = .returned (.tuple #[]) ∧ w'.heap[b]? = some (.cells #[.pointer (some ⟨b, 0, none⟩), v] (ρ.t 72) (0, 0)) ∧ w'.ownsRow 0 (ρ.t 5) 1 v bs.length bs ∧ w.grownBy w' (some b) ∧ w'.heap.size = w.heap.size := by
  obtain ⟨⟨p, hb, hp⟩, hown⟩ := h
  rcases hp with rfl | rfl
  · refine (Any.Builder_copyCheck_fresh L X b w (by rw [Lib.cell_of_heap hb]; rfl) (by simp [World.shape?, hb]) (Lib.frozen_of_heap hb 0)).mono ?_
    rintro e w' ⟨rfl, rfl⟩
    have hg : w.grownBy (w.setCell ⟨b, 0, none⟩ (.pointer (some ⟨b, 0, none⟩))) (some b) := ⟨rfl, rfl, rfl, by simp [World.setCell], fun k _ hk => Below.heap_setCell _ _ _ _ (fun e => hk (by simp [e]))⟩
    refine ⟨rfl, ?_, hown.kept hg (Or.inr hne), hg, by simp [World.setCell]⟩
    simp [World.setCell, Array.getElem?_modify, hb]
  · refine (Any.Builder_copyCheck_used L X b w (by rw [Lib.cell_of_heap hb]; rfl)).mono ?_
    rintro e w' ⟨rfl, rfl⟩
    exact ⟨rfl, hb, hown, ⟨rfl, rfl, rfl, Nat.le_refl _, fun _ _ _ => rfl⟩, rfl⟩
set_option maxHeartbeats 2000000 in
set_option maxRecDepth 100000 in
theorem bld_WriteString (L : Lays.n166 P ρ) (X : Builder.Extra P ρ) (b : Nat) (v : Value) (bs : List Value) (s : ByteArray) (w : World) (h : BldAt (ρ.t 72) (ρ.t 5) b v bs w) (hlen : bs.length + s.size ≤ 140737488355328) :
    Calls P (ρ.f 166) #[.pointer (some ⟨b, 0, none⟩), .string s] w fun e w' => e = .returned (.tuple #[.int .i64 s.size, .nilIface]) ∧ ∃ v', BldAt (ρ.t 72) (ρ.t 5) b v' (bs ++ Lib.strCells s) w' ∧
      (w'.os = w.os ∧ w'.tape = w.tape ∧ w'.output = w.output ∧ w.heap.size ≤ w'.heap.size) ∧ (∀ k, k < w.heap.size → k ≠ b → some k ≠ v.ownBlock → w'.heap[k]? = w.heap[k]?) ∧ (∀ k, v'.ownBlock = some k → v.ownBlock = some k ∨ w.heap.size ≤ k) := by
  obtain ⟨i0, hi, hz0, hz1, hz2⟩ := info_parts X.infoByte
  have hne : v.ownBlock ≠ some b := by obtain ⟨⟨p, hb, _⟩, hown⟩ := h; exact Lib.ownBlock_ne hown hb X.neB5
  have mixed := L.mixed
  have t72 := L.t72; have a72 := L.a72; have z72 := L.z72; have v72 := L.v72; have u72 := run_underlying L.t72
  have t70 := L.t70; have a70 := L.a70; have z70 := L.z70; have v70 := L.v70; have u70 := run_underlying L.t70
  have t37 := L.t37; have a37 := L.a37; have z37 := L.z37; have v37 := L.v37; have u37 := run_underlying L.t37
  have t3 := L.t3; have a3 := L.a3; have z3 := L.z3; have v3 := L.v3; have u3 := run_underlying L.t3
  have t9 := L.t9; have a9 := L.a9; have z9 := L.z9; have v9 := L.v9; have u9 := run_underlying L.t9
  have t4 := L.t4; have a4 := L.a4; have z4 := L.z4; have v4 := L.v4; have u4 := run_underlying L.t4
  have t164 := L.t164; have a164 := L.a164; have z164 := L.z164; have v164 := L.v164; have u164 := run_underlying L.t164
  have t5 := X.t5; have a5 := X.a5; have z5 := X.z5; have v5 := X.v5; have u5 := run_underlying X.t5
  have e240 : ∀ args w, (callFunc (ρ.f 240) args).run P w = .ok (.enter (ρ.f 240) args) w := enters_of L.f240 (by kernel_rfl) rfl
  go_enter L.f166, Body.n166_ntmps ρ
  go_wp2_with (go_at_fn (ρ.f 240); refine (bld_copyCheck { L with } X.toX72 b v bs _ h hne).mono ?_)
  rintro e w1 ⟨rfl, hbk, hown, hg1, hs1⟩
  have c0 : w1.cell? ⟨b, 0, none⟩ = some (.pointer (some ⟨b, 0, none⟩)) := by rw [Lib.cell_of_heap hbk]; rfl
  have c1 : w1.cell? ⟨b, 1, none⟩ = some v := by rw [Lib.cell_of_heap hbk]; rfl
  go_wp2_with (at_builtin; refine wpList_append_own_string' rfl _ _ (ρ.t 37) (ρ.t 9) rfl 0 (ρ.t 5) i0 L.t37 L.t9 hi hz0 hz1 hz2 _ _ _ rfl hown s rfl ?c3 ?c4 ?c5 ?_)
  case c3 => unfold maxLen; omega
  case c4 => omega
  case c5 => omega
  intro v' w2 hown' hgrow hnew
  have hlt : b < w1.heap.size := by
    rcases Nat.lt_or_ge b w1.heap.size with h' | h'
    · exact h'
    · simp [Array.getElem?_eq_none h'] at hbk
  have hb2 : w2.heap[b]? = some (.cells #[.pointer (some ⟨b, 0, none⟩), v] (ρ.t 72) (0, 0)) := by
    rw [hgrow.block b hlt (fun e => hne e.symm)]
    exact hbk
  have d0 : w2.cell? ⟨b, 0, none⟩ = some (.pointer (some ⟨b, 0, none⟩)) := by rw [Lib.cell_of_heap hb2]; rfl
  have d1 : w2.cell? ⟨b, 1, none⟩ = some v := by rw [Lib.cell_of_heap hb2]; rfl
  have f1 : w2.frozen? ⟨b, 1, none⟩ = false := Lib.frozen_of_heap hb2 1
  have hfin : BldAt (ρ.t 72) (ρ.t 5) b v' (bs ++ Lib.strCells s) (w2.setCell ⟨b, 1, none⟩ v') := by
    have hg3 : w2.grownBy (w2.setCell ⟨b, 1, none⟩ v') (some b) := ⟨rfl, rfl, rfl, by simp [World.setCell], fun k _ hk => Below.heap_setCell _ _ _ _ (fun e => hk (by simp [e]))⟩
    refine ⟨⟨_, by simp [World.setCell, Array.getElem?_modify, hb2], .inr rfl⟩, ?_⟩
    rw [List.length_append, Lib.strCells_length]
    exact hown'.kept hg3 (Or.inr (Lib.ownBlock_ne hown' hb2 X.neB5))
  have hrest : (w2.setCell ⟨b, 1, none⟩ v').os = w.os ∧ (w2.setCell ⟨b, 1, none⟩ v').tape = w.tape ∧ (w2.setCell ⟨b, 1, none⟩ v').output = w.output ∧ w.heap.size ≤ (w2.setCell ⟨b, 1, none⟩ v').heap.size :=
    ⟨hgrow.os.trans hg1.os, hgrow.tape.trans hg1.tape, hgrow.output.trans hg1.output, by have := hgrow.size; simp [World.setCell]; omega⟩
  have hblk : ∀ k, k < w.heap.size → k ≠ b → some k ≠ v.ownBlock → (w2.setCell ⟨b, 1, none⟩ v').heap[k]? = w.heap[k]? := fun k hk hkb hkv =>
    (Below.heap_setCell _ _ _ _ hkb).trans ((hgrow.block k (by omega) hkv).trans (hg1.block k hk (fun e => hkb (by injection e))))
  have hnew' : ∀ k, v'.ownBlock = some k → v.ownBlock = some k ∨ w.heap.size ≤ k := fun k hk => (hnew k hk).imp id (fun h => by omega)
  have HID : Hid (BldAt (ρ.t 72) (ρ.t 5) b v' (bs ++ Lib.strCells s) (w2.setCell ⟨b, 1, none⟩ v') ∧ ((w2.setCell ⟨b, 1, none⟩ v').os = w.os ∧ (w2.setCell ⟨b, 1, none⟩ v').tape = w.tape ∧ (w2.setCell ⟨b, 1, none⟩ v').output = w.output ∧ w.heap.size ≤ (w2.setCell ⟨b, 1, none⟩ v').heap.size) ∧
    (∀ k, k < w.heap.size → k ≠ b → some k ≠ v.ownBlock → (w2.setCell ⟨b, 1, none⟩ v').heap[k]? = w.heap[k]?) ∧ (∀ k, v'.ownBlock = some k → v.ownBlock = some k ∨ w.heap.size ≤ k)) := ⟨hfin, hrest, hblk, hnew'⟩
  clear hfin hrest hblk hnew' hnew
  obtain ⟨ao, n', cap, rfl⟩ : ∃ ao n' cap, v' = .slice ao n' cap := by
    rcases hown'.2 with ⟨hv, _⟩ | ⟨g, cap, cur, hv, _⟩
    · exact ⟨_, _, _, hv⟩
    · exact ⟨_, _, _, hv⟩
  go_wp2
  go_ret2
  exact ⟨rfl, _, HID.out⟩
set_option maxHeartbeats 1000000 in
set_option maxRecDepth 100000 in
theorem bld_String (L : Lays.n169 P ρ) (X : Builder.Extra P ρ) (b : Nat) (v : Value) (l : List UInt8) (w : World) (h : BldAt (ρ.t 72) (ρ.t 5) b v (Lib.byteCells l) w) :
    Calls P (ρ.f 169) #[.pointer (some ⟨b, 0, none⟩)] w fun e w' => e = .returned (.string ⟨l.toArray⟩) ∧ w.grownBy w' v.ownBlock := by
  have hne : v.ownBlock ≠ some b := by obtain ⟨⟨p, hb, _⟩, hown⟩ := h; exact Lib.ownBlock_ne hown hb X.neB5
  obtain ⟨⟨p, hbk, hp⟩, hown⟩ := h
  by_cases hl : l = []
  · subst hl
    rcases hown.2 with ⟨rfl, _⟩ | ⟨g, cap, cur, rfl, hbg, hg, _, _, _, _⟩
    · refine (Any.Builder_String_nil L X w.heap.size b p w hbk).mono ?_
      rintro e w' ⟨rfl, h⟩
      exact ⟨rfl, h.os, h.tape, h.output, h.size, fun k hk _ => h.block k hk⟩
    · by_cases hc0 : cap = 0
      · subst hc0
        refine (Any.Builder_String_noroom L X w.heap.size b g p cur w (Nat.le_refl _) hbk hg).mono ?_
        rintro e w' ⟨rfl, h⟩
        exact ⟨rfl, h.os, h.tape, h.output, h.size, fun k hk _ => h.block k hk⟩
      · refine (Any.Builder_String_room L X w.heap.size b g cap p w hc0 hbk).mono ?_
        rintro e w' ⟨rfl, h⟩
        exact ⟨rfl, h.os, h.tape, h.output, h.size, fun k hk _ => h.block k hk⟩
  have hl0 : l.length ≠ 0 := by simpa using hl
  rw [Lib.byteCells_length] at hown
  obtain ⟨g, cap, cur, rfl, hg, hnc, hcm, hcs, htake⟩ : ∃ g cap cur, v = .slice (some ⟨g, 0, none⟩) l.length cap ∧ w.heap[g]? = some (.cells cur (ρ.t 5) (0, 0)) ∧ l.length ≤ cap ∧ cap ≤ maxLen ∧ cur.size = cap * 1 ∧ cur.toList.take (l.length * 1) = Lib.byteCells l := by
    rcases hown.2 with ⟨_, hz⟩ | ⟨g, cap, cur, hv, _, r⟩
    · exact absurd hz hl0
    · exact ⟨g, cap, cur, hv, r⟩
  have c1 : w.drew.cell? ⟨b, 1, none⟩ = some (.slice (some ⟨g, 0, none⟩) l.length cap) := by
    have : w.drew.heap[b]? = some (.cells #[p, .slice (some ⟨g, 0, none⟩) l.length cap] (ρ.t 72) (0, 0)) := hbk
    rw [Lib.cell_of_heap this]; rfl
  have hSD : (Builtin.unsafeSliceData_ #[(ρ.t 37)] (ρ.t 127) #[.slice (some ⟨g, 0, none⟩) l.length cap]).run P w.drew = .ok (.pointer (some ⟨g, 0, none⟩)) w.drew :=
    Lib.run_unsafeSliceData_row _ _ _ _ _ _ (by omega)
  have hUS : (Builtin.unsafeString_ #[(ρ.t 127), (ρ.t 3)] (ρ.t 9) #[.pointer (some ⟨g, 0, none⟩), .int .i64 l.length]).run P w.drew = .ok (.string ⟨l.toArray⟩) (w.drew.freeze ⟨g, 0, none⟩ l.length) := by
    refine Lib.run_unsafeString_row w.drew (ρ.t 127) (ρ.t 3) (ρ.t 9) (ρ.t 5) L.t127 X.cellsByte g cur.size (by have hg' : w.drew.heap[g]? = some (.cells cur (ρ.t 5) (0, 0)) := hg; simp [World.shape?, hg']) l hl (by omega) (by unfold maxLen at hcm; omega) ?_
    intro j x hx
    have := hown.cells (g := g) rfl j (.int .u8 x.toNat) (by simp [Lib.byteCells, hx])
    exact this
  have hend : w.grownBy (w.drew.freeze ⟨g, 0, none⟩ l.length) (some g) := by
    obtain ⟨k1, k2, k3, k4, k5⟩ := Lib.below_freeze (B := g) (Below.drew (Below.refl g w)) (p := ⟨g, 0, none⟩) (Nat.le_refl _) l.length
    refine ⟨k1, k2, k3, k4, fun k hk hkg => ?_⟩
    have : k ≠ g := fun e => hkg (by rw [e])
    unfold World.freeze
    split
    · rfl
    · show (Array.modify _ _ _)[k]? = _
      rw [Array.getElem?_modify, if_neg (fun e => this e.symm)]
      rfl
  have HID : Hid (w.grownBy (w.drew.freeze ⟨g, 0, none⟩ l.length) (some g)) := hend
  clear hend
  have mixed := L.mixed
  have t72 := L.t72; have a72 := L.a72; have z72 := L.z72; have v72 := L.v72; have u72 := run_underlying L.t72
  have t70 := L.t70; have a70 := L.a70; have z70 := L.z70; have v70 := L.v70; have u70 := run_underlying L.t70
  have t37 := L.t37; have a37 := L.a37; have z37 := L.z37; have v37 := L.v37; have u37 := run_underlying L.t37
  have t127 := L.t127; have a127 := L.a127; have z127 := L.z127; have v127 := L.v127; have u127 := run_underlying L.t127
  have t3 := L.t3; have a3 := L.a3; have z3 := L.z3; have v3 := L.v3; have u3 := run_underlying L.t3
  have t9 := L.t9; have a9 := L.a9; have z9 := L.z9; have v9 := L.v9; have u9 := run_underlying L.t9
  have t5 := X.t5; have a5 := X.a5; have z5 := X.z5; have v5 := X.v5; have u5 := run_underlying X.t5
  go_enter L.f169, Body.n169_ntmps ρ
  go_wp2
  go_region_o
  all_goals (go_wp2; go_ret; exact ⟨rfl, HID.out⟩)
end Go.Pm
namespace Go.Pm
open Go Go.RowKit Go.Shelf Go.Proofs
set_option linter.unusedSimpArgs false
set_option linter.unusedVariables false
theorem onlyO {H : List AObj} {k : List Nat} {id : Nat} (hH : ∀ (i : Nat) (x : AObj), H[i]? = some x → x ≠ .dead → i = id) (hk : ∀ (i n : Nat), k[i]? = some n → n = 0) : ∀ l, l ∈ wLocs H k (k.length - k.length) → l = .obj id := by
  intro l hl
  cases l with
  | slot t => exact absurd hl wLocs_slot
  | obj i => obtain ⟨x, h1, h2⟩ := wLocs_obj.1 hl; rw [hH i x h1 h2]
  | tok i =>
    rcases wLocs_tok.1 hl with ⟨m, h⟩ | ⟨h1, h2⟩
    · have := hk _ _ h; omega
    · omega
theorem FnW.bldWrite {E : Env} {P : Program} {ρ : Ren} (L : Lays.n166 P ρ) (X : Builder.Extra P ρ) {H : List AObj} {k : List Nat} {id : Nat} {b s : Bytes} (hid : H[id]? = some (.mp (.bld (ρ.t 72) (ρ.t 5) b)))
    (hlen : b.length + s.length ≤ 140737488355328) (hH : ∀ (i : Nat) (x : AObj), H[i]? = some x → x ≠ .dead → i = id) (hk : ∀ (i n : Nat), k[i]? = some n → n = 0) :
    FnW E P (ρ.f 166) [.ptr id 0, .str s] H k (.tup [.int .i64 (s.length : Int), .nili]) none (H.set id (.mp (.bld (ρ.t 72) (ρ.t 5) (b ++ s)))) k := by
  refine ⟨⟨_, L.f166, by kernel_rfl, rfl⟩, List.length_set .., Nat.le_refl _, fun B G w vals hg hN hl hr => ?_⟩
  have hobj : RepObj G w id (some (.mp (.bld (ρ.t 72) (ρ.t 5) b))) := by
    have := hN (.obj id) (wLocs_obj.2 ⟨_, hid, by simp⟩)
    simp only [RepH, hid] at this
    exact this
  obtain ⟨g, i1, i2, i3, v, hb, hown, hvo⟩ := hobj
  obtain ⟨x, y, rfl⟩ : ∃ x y, vals = [x, y] := by
    match vals, hl with
    | [x, y], _ => exact ⟨x, y, rfl⟩
  have r0 := hr 0 _ _ rfl rfl
  have r1 := hr 1 _ _ rfl rfl
  cases r0 with | ptr _ _ _ g' hg' =>
  rw [i1] at hg'
  injection hg' with hg'
  subst hg'
  cases r1 with | str _ _ hs =>
  have hsz : (⟨s.toArray⟩ : ByteArray).size = s.length := by simp [ByteArray.size]
  have hcells : (s.map fun b => Value.int .u8 b.toNat) = Lib.strCells ⟨s.toArray⟩ := by simp [Lib.strCells]
  refine (bld_WriteString L X g v (b.map fun b => Value.int .u8 b.toNat) ⟨s.toArray⟩ w ⟨hb, by simpa using hown⟩ (by simpa [hsz] using hlen)).mono ?_
  rintro e w' ⟨rfl, v', ⟨hb', hown'⟩, ⟨o1, o2, o3, o4⟩, hblk, hnew⟩
  have hglt : ∀ k i, G.O k = some i → k < w.heap.size := fun k i hi => (hg.own k i hi).1
  have hv'lt : ∀ k, v'.ownBlock = some k → k < w'.heap.size := fun k hk => (hown'.lt k hk).2
  let G' : Gh := { G with O := fun k => if w.heap.size ≤ k ∧ v'.ownBlock = some k then some (.inl id) else G.O k }
  have hO1 : ∀ k i, G.O k = some i → G'.O k = some i := fun k i hi => by
    show (if _ then _ else _) = _
    rw [if_neg (fun h => by have := hglt k i hi; omega)]; exact hi
  have hsame : ∀ k, k < w.heap.size → G.O k ≠ some (.inl id) → w'.heap[k]? = w.heap[k]? := fun k hk hn => hblk k hk (fun e => hn (e ▸ i2)) (fun e => hn (hvo k e.symm).1)
  have hcell : ∀ b o, G.F b o → w'.cell? ⟨b, o, none⟩ = w.cell? ⟨b, o, none⟩ := fun b o hb => cell_congr (hblk b (hg.fin b o hb) (fun e => i3 o (e ▸ hb)) (fun e => (hvo b e.symm).2 o hb))
  have hx : Ext G w G' w' := ⟨fun _ _ x => x, fun _ _ x => x, fun _ _ x => x, hcell⟩
  have hgood : Good E B G' w' := hg.step o4 (fun k hk hn => hsame k hk (by rw [hn]; simp)) hcell (fun _ _ x => x) (fun k o hb => ⟨by have := hg.fin k o hb; omega, .inl hb⟩) (fun k i hi => by
    have hi' : (if w.heap.size ≤ k ∧ v'.ownBlock = some k then some (Sum.inl id) else G.O k) = some i := hi
    split at hi'
    · rename_i h; exact ⟨hv'lt k h.2, .inl h.1⟩
    · exact ⟨by have := hglt k i hi'; omega, .inr (by rw [hi']; simp)⟩) o1 o2 o3 hx
  have hloc := onlyO hH hk
  refine ⟨_, G', rfl, hgood, ⟨hx, fun i c hi hc => ?_, fun i c _ hc => ?_⟩, ⟨?_, trivial⟩, fun l hl => ?_⟩
  · have hne : i ≠ id := fun e => hi (wLocs_obj.2 ⟨_, by rw [e]; exact hid, by simp⟩)
    exact hc.keep hx (fun h => h) fun g2 hg2 => ⟨hO1 _ _ hg2, hsame g2 (hglt _ _ hg2) (by rw [hg2]; simpa using hne), fun _ h => h⟩
  · exact hc.keep hx (fun h => h) fun g2 hg2 => ⟨hO1 _ _ hg2, hsame g2 (hglt _ _ hg2) (by rw [hg2]; simp), fun _ h => h⟩
  · rw [hsz]
    refine .tup _ [_, _] [_, _] rfl fun i v c hv hc => ?_
    match i, hv, hc with
    | 0, hv, hc => cases hv; cases hc; exact .int _ _ _ (i64_len hs)
    | 1, hv, hc => cases hv; cases hc; exact .nili _
  · rw [hloc l hl]
    show RepObj G' w' id (H.set id _)[id]?
    have hlt : id < H.length := (List.getElem?_eq_some_iff.1 hid).1
    rw [List.getElem?_set_self hlt]
    refine ⟨g, i1, hO1 _ _ i2, i3, v', hb', ?_, fun k hk => ?_⟩
    · rw [List.map_append, hcells]
      have : (b ++ s).length = (b.map (fun b => Value.int .u8 b.toNat) ++ Lib.strCells ⟨s.toArray⟩).length := by simp [Lib.strCells_length, hsz]
      rw [this]
      exact hown'
    · rcases hnew k hk with h | h
      · exact ⟨hO1 _ _ (hvo k h).1, (hvo k h).2⟩
      · refine ⟨?_, fun x hx => by have := hg.fin k x hx; omega⟩
        show (if _ then _ else _) = _
        rw [if_pos ⟨h, hk⟩]
theorem FnW.bldString {E : Env} {P : Program} {ρ : Ren} (L : Lays.n169 P ρ) (X : Builder.Extra P ρ) {H : List AObj} {k : List Nat} {id : Nat} {b : Bytes} (hid : H[id]? = some (.mp (.bld (ρ.t 72) (ρ.t 5) b)))
    (hlen : b.length ≤ 140737488355328) (hH : ∀ (i : Nat) (x : AObj), H[i]? = some x → x ≠ .dead → i = id) (hk : ∀ (i n : Nat), k[i]? = some n → n = 0) :
    FnW E P (ρ.f 169) [.ptr id 0] H k (.str b) none (H.set id .dead) k := by
  refine ⟨⟨_, L.f169, by kernel_rfl, rfl⟩, List.length_set .., Nat.le_refl _, fun B G w vals hg hN hl hr => ?_⟩
  have hobj : RepObj G w id (some (.mp (.bld (ρ.t 72) (ρ.t 5) b))) := by
    have := hN (.obj id) (wLocs_obj.2 ⟨_, hid, by simp⟩)
    simp only [RepH, hid] at this
    exact this
  obtain ⟨g, i1, i2, i3, v, hb, hown, hvo⟩ := hobj
  obtain ⟨x, rfl⟩ : ∃ x, vals = [x] := by
    match vals, hl with
    | [x], _ => exact ⟨x, rfl⟩
  have r0 := hr 0 _ _ rfl rfl
  cases r0 with | ptr _ _ _ g' hg' =>
  rw [i1] at hg'
  injection hg' with hg'
  subst hg'
  refine (bld_String L X g v b w ⟨hb, by simpa [Lib.byteCells] using hown⟩).mono ?_
  rintro e w' ⟨rfl, hgr⟩
  have hglt : ∀ k i, G.O k = some i → k < w.heap.size := fun k i hi => (hg.own k i hi).1
  have hsame : ∀ k, k < w.heap.size → G.O k ≠ some (.inl id) → w'.heap[k]? = w.heap[k]? := fun k hk hn => hgr.block k hk (fun e => hn (hvo k e.symm).1)
  have hcell : ∀ b o, G.F b o → w'.cell? ⟨b, o, none⟩ = w.cell? ⟨b, o, none⟩ := fun b o hb => cell_congr (hgr.block b (hg.fin b o hb) (fun e => (hvo b e.symm).2 o hb))
  have hx : Ext G w G w' := ⟨fun _ _ x => x, fun _ _ x => x, fun _ _ x => x, hcell⟩
  have hgood : Good E B G w' := hg.step hgr.size (fun k hk hn => hsame k hk (by rw [hn]; simp)) hcell (fun _ _ x => x) (fun k o hb => ⟨by have := hg.fin k o hb; have := hgr.size; omega, .inl hb⟩) (fun k i hi => ⟨by have := hglt k i hi; have := hgr.size; omega, .inr (by rw [hi]; simp)⟩) hgr.os hgr.tape hgr.output hx
  have hloc := onlyO hH hk
  refine ⟨_, G, rfl, hgood, ⟨hx, fun i c hi hc => ?_, fun i c _ hc => ?_⟩, ⟨?_, trivial⟩, fun l hl => ?_⟩
  · have hne : i ≠ id := fun e => hi (wLocs_obj.2 ⟨_, by rw [e]; exact hid, by simp⟩)
    exact hc.keep hx (fun h => h) fun g2 hg2 => ⟨hg2, hsame g2 (hglt _ _ hg2) (by rw [hg2]; simpa using hne), fun _ h => h⟩
  · exact hc.keep hx (fun h => h) fun g2 hg2 => ⟨hg2, hsame g2 (hglt _ _ hg2) (by rw [hg2]; simp), fun _ h => h⟩
  · exact .str _ _ (by unfold maxLen; omega)
  · rw [hloc l hl]
    show RepObj G w' id (H.set id _)[id]?
    have hlt : id < H.length := (List.getElem?_eq_some_iff.1 hid).1
    rw [List.getElem?_set_self hlt]
    trivial
theorem maskH_one {id : Nat} {H : List AObj} {x : AObj} (hx : H[id]? = some x) : (maskH [id] 0 H)[id]? = some x ∧ ∀ (i : Nat) (y : AObj), (maskH [id] 0 H)[i]? = some y → y ≠ .dead → i = id := by
  have key : ∀ (l : List AObj) (s i : Nat), (maskH [id] s l)[i]? = l[i]?.map fun x => bif Nat.beq id (s + i) then x else .dead := by
    intro l
    induction l with
    | nil => intro s i; simp [maskH]
    | cons a l ih =>
      intro s i
      cases i with
      | zero => simp only [maskH, List.getElem?_cons_zero, Option.map_some, Nat.add_zero, List.contains, List.elem, Option.some.injEq]; cases hh : (s == id) with
        | true => have : Nat.beq id s = true := by rw [Nat.beq_eq]; simpa using (beq_iff_eq.1 hh).symm
                  rw [this]
        | false => have : Nat.beq id s = false := by rw [← Bool.not_eq_true, Nat.beq_eq]; intro e; simp [e] at hh
                   rw [this]
      | succ i => simp only [maskH, List.getElem?_cons_succ]; rw [ih]; simp only [Nat.add_assoc, Nat.add_comm 1 i]
  refine ⟨by rw [key, hx]; simp, fun i y hy hd => ?_⟩
  rw [key] at hy
  cases hh : H[i]? with
  | none => rw [hh] at hy; cases hy
  | some z =>
    rw [hh] at hy
    simp only [Option.map_some, Option.some.injEq, Nat.zero_add] at hy
    cases hb : Nat.beq id i with
    | true => exact (Nat.eq_of_beq_eq_true hb).symm
    | false => rw [hb] at hy; exact absurd hy.symm hd
theorem maskK_none {k : List Nat} : ∀ (i n : Nat), (maskK [] 0 k)[i]? = some n → n = 0 := by
  have key : ∀ (l : List Nat) (s i n : Nat), (maskK [] s l)[i]? = some n → n = 0 := by
    intro l
    induction l with
    | nil => intro s i n h; simp [maskK] at h
    | cons a l ih =>
      intro s i n h
      cases i with
      | zero => simp [maskK, List.contains, List.elem] at h; exact h.symm
      | succ i => simp only [maskK, List.getElem?_cons_succ] at h; exact ih _ _ _ h
  exact key k 0
theorem CallH.bldW {E : Env} {P : Program} {ρ : Ren} {st : St} {f : FuncId} {N0 : List Loc} {k : KH} (L : Lays.n166 P ρ) (X : Builder.Extra P ρ) (id : Nat) (b s : Bytes) (hf : ρ.f 166 = f) (T e : TypeId) (hT : ρ.t 72 = T) (he : ρ.t 5 = e) (H2 : List AObj) (k2 : List Nat)
    (hid : st.H[id]? = some (.mp (.bld T e b))) (hlen : b.length + s.length ≤ 140737488355328)
    (eH : mergeH st.H (maskH [id] 0 st.H) ((maskH [id] 0 st.H).set id (.mp (.bld T e (b ++ s)))) = H2) (eK : mergeK st.k (maskK [] 0 st.k) (maskK [] 0 st.k) = k2)
    (hk : k (.tup [.int .i64 (s.length : Int), .nili]) none H2 k2 (N0 ++ wLocs (maskH [id] 0 st.H) (maskK [] 0 st.k) ((maskK [] 0 st.k).length - (maskK [] 0 st.k).length)) (wLocs (maskH [id] 0 st.H) (maskK [] 0 st.k) ((maskK [] 0 st.k).length - (maskK [] 0 st.k).length))) : CallH E P st f [.ptr id 0, .str s] N0 k := by
  subst hf; subst hT; subst he
  refine .objs [id] [] _ none _ _ (FnW.bldWrite L X (maskH_one hid).1 hlen (maskH_one hid).2 maskK_none) ?_
  rw [eH, eK]; exact hk
theorem CallH.bldS {E : Env} {P : Program} {ρ : Ren} {st : St} {f : FuncId} {N0 : List Loc} {k : KH} (L : Lays.n169 P ρ) (X : Builder.Extra P ρ) (id : Nat) (b : Bytes) (hf : ρ.f 169 = f) (T e : TypeId) (hT : ρ.t 72 = T) (he : ρ.t 5 = e) (H2 : List AObj) (k2 : List Nat)
    (hid : st.H[id]? = some (.mp (.bld T e b))) (hlen : b.length ≤ 140737488355328)
    (eH : mergeH st.H (maskH [id] 0 st.H) ((maskH [id] 0 st.H).set id .dead) = H2) (eK : mergeK st.k (maskK [] 0 st.k) (maskK [] 0 st.k) = k2)
    (hk : k (.str b) none H2 k2 (N0 ++ wLocs (maskH [id] 0 st.H) (maskK [] 0 st.k) ((maskK [] 0 st.k).length - (maskK [] 0 st.k).length)) (wLocs (maskH [id] 0 st.H) (maskK [] 0 st.k) ((maskK [] 0 st.k).length - (maskK [] 0 st.k).length))) : CallH E P st f [.ptr id 0] N0 k := by
  subst hf; subst hT; subst he
  refine .objs [id] [] _ none _ _ (FnW.bldString L X (maskH_one hid).1 hlen (maskH_one hid).2 maskK_none) ?_
  rw [eH, eK]; exact hk
end Go.Pm
namespace Go.Pm
open Go Go.RowKit Go.Shelf Go.Proofs
set_option linter.unusedSimpArgs false
set_option linter.unusedVariables false
theorem FnW.bldLen {E : Env} {P : Program} {ρ σ : Ren} (L : Lays.n170 P σ) (X : Builder.Extra P ρ) {T e : TypeId} (h72 : σ.t 72 = T) (h5 : σ.t 5 = e) (g72 : ρ.t 72 = T) (g5 : ρ.t 5 = e) {H : List AObj} {k : List Nat} {id : Nat} {b : Bytes} (hid : H[id]? = some (.mp (.bld T e b)))
    (hlen : b.length ≤ 140737488355328) : FnW E P (σ.f 170) [.ptr id 0] H k (.int .i64 (b.length : Int)) none H k := by
  subst g72 g5
  refine ⟨⟨_, L.f170, by kernel_rfl, rfl⟩, rfl, Nat.le_refl _, fun B G w vals hg hN hl hr => ?_⟩
  have hobj : RepObj G w id (some (.mp (.bld (ρ.t 72) (ρ.t 5) b))) := by
    have := hN (.obj id) (wLocs_obj.2 ⟨_, hid, by simp⟩)
    simp only [RepH, hid] at this
    exact this
  obtain ⟨g, i1, i2, i3, v, hb, hown, hvo⟩ := hobj
  obtain ⟨x, rfl⟩ : ∃ x, vals = [x] := by
    match vals, hl with
    | [x], _ => exact ⟨x, rfl⟩
  have r0 := hr 0 _ _ rfl rfl
  cases r0 with | ptr _ _ _ g' hg' =>
  rw [i1] at hg'
  injection hg' with hg'
  subst hg'
  have hB : BldAt (ρ.t 72) (ρ.t 5) g v (b.map fun b => Value.int .u8 b.toNat) w := ⟨hb, by simpa using hown⟩
  obtain ⟨⟨p, hbk, hp⟩, hown2⟩ := hB
  have hne : v.ownBlock ≠ some g := Lib.ownBlock_ne hown2 hbk X.neB5
  have hI : Lib.IsBuilder (σ.t 72) (σ.t 5) 0 g (b.map fun b => Value.int .u8 b.toNat) w := by
    rw [h72, h5]
    rcases hp with rfl | rfl
    · exact .inl ⟨Nat.zero_le _, v, hbk, hown2, hne⟩
    · exact .inr ⟨Nat.zero_le _, v, hbk, hown2, hne⟩
  refine (Any.Builder_Len L 0 g _ w hI).mono ?_
  rintro e w' ⟨rfl, rfl⟩
  refine ⟨_, G, rfl, hg, ⟨⟨fun _ _ x => x, fun _ _ x => x, fun _ _ x => x, fun _ _ _ => rfl⟩, fun i c hi hc => hc, fun i c _ hc => hc⟩, ⟨?_, trivial⟩, fun l hl => hN l hl⟩
  rw [List.length_map]
  exact .int _ _ _ (i64_len (by unfold maxLen; omega))
theorem CallH.bldL {E : Env} {P : Program} {ρ σ : Ren} {st : St} {f : FuncId} {N0 : List Loc} {k : KH} (L : Lays.n170 P σ) (X : Builder.Extra P ρ) (id : Nat) (b : Bytes) (hf : σ.f 170 = f) (T e : TypeId) (h72 : σ.t 72 = T) (h5 : σ.t 5 = e) (g72 : ρ.t 72 = T) (g5 : ρ.t 5 = e) (H2 : List AObj) (k2 : List Nat)
    (hid : st.H[id]? = some (.mp (.bld T e b))) (hlen : b.length ≤ 140737488355328)
    (eH : mergeH st.H (maskH [id] 0 st.H) (maskH [id] 0 st.H) = H2) (eK : mergeK st.k (maskK [] 0 st.k) (maskK [] 0 st.k) = k2)
    (hk : k (.int .i64 (b.length : Int)) none H2 k2 (N0 ++ wLocs (maskH [id] 0 st.H) (maskK [] 0 st.k) ((maskK [] 0 st.k).length - (maskK [] 0 st.k).length)) (wLocs (maskH [id] 0 st.H) (maskK [] 0 st.k) ((maskK [] 0 st.k).length - (maskK [] 0 st.k).length))) : CallH E P st f [.ptr id 0] N0 k := by
  subst hf
  refine .objs [id] [] _ none _ _ (FnW.bldLen L X h72 h5 g72 g5 (maskH_one hid).1 hlen) ?_
  rw [eH, eK]; exact hk
end Go.Pm
