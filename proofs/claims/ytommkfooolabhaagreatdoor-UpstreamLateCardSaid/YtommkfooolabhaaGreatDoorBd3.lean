/-
  Generic: a call of a strings.Builder's Len.
-/
import Derived.Test.YtommkfooolabhaaGreatDoorBd2
namespace Go.Pm
open Go Go.RowKit Go.Shelf Go.Proofs
set_option linter.unusedSimpArgs false
set_option linter.unusedVariables false
theorem FnW.bldLen {E : Env} {P : Program} {ρ σ : Ren} (L : Lays.n170 P σ) (X : Builder.Extra P ρ) {T e : TypeId} (h72 : σ.t 72 = T) (h5 : σ.t 5 = e) (g72 : ρ.t 72 = T) (g5 : ρ.t 5 = e) {H : List AObj} {k : List Nat} {id : Nat} {b : Bytes} (hid : H[id]? = some (.mp (.bld T e b)))
    (hlen : b.length ≤ 140737488355328) : FnW E P (σ.f 170) [.ptr id 0] H k (.int .i64 (b.length : Int)) none H k := by
  subst g72 g5
  refine ⟨⟨_, L.f170, by kernel_rfl, rfl⟩, rfl, Nat.le_refl _, fun B G w vals hg hN hl hr => ?_⟩
  have hobj : RepObj G w id (some (.mp (.bld (ρ.t 72) (ρ.t 5) b))) := by
    have := hN (.obj id) (wLocs_obj.2 ⟨_, hid, by simp⟩)
    simp only [RepH, hid] at this
    exact this
  obtain ⟨g, i1, i2, i3, v, hb, hown, hvo⟩ := hobj
  obtain ⟨x, rfl⟩ : ∃ x, vals = [x] := by
    match vals, hl with
    | [x], _ => exact ⟨x, rfl⟩
  have r0 := (hr 0 _ _ rfl rfl).1
  cases r0 with | ptr _ _ _ g' hg' =>
  rw [i1] at hg'
  injection hg' with hg'
  subst hg'
  have hB : BldAt (ρ.t 72) (ρ.t 5) g v (b.map fun b => Value.int .u8 b.toNat) w := ⟨hb, by simpa using hown⟩
  obtain ⟨⟨p, hbk, hp⟩, hown2⟩ := hB
  have hne : v.ownBlock ≠ some g := Lib.ownBlock_ne hown2 hbk X.neB5
  have hI : Lib.IsBuilder (σ.t 72) (σ.t 5) 0 g (b.map fun b => Value.int .u8 b.toNat) w := by
    rw [h72, h5]
    rcases hp with rfl | rfl
    · exact .inl ⟨Nat.zero_le _, v, hbk, hown2, hne⟩
    · exact .inr ⟨Nat.zero_le _, v, hbk, hown2, hne⟩
  refine (Any.Builder_Len L 0 g _ w hI).mono ?_
  rintro e w' ⟨rfl, rfl⟩
  refine ⟨_, G, rfl, hg, ⟨⟨fun _ _ x => x, fun _ _ x => x, fun _ _ x => x, fun _ _ _ => rfl, fun _ _ x => x⟩, fun i c hi hc => hc, fun i c _ hc => hc⟩, ⟨?_, trivial⟩, fun l hl => hN l hl⟩
  rw [List.length_map]
  exact .int _ _ _ (i64_len (by unfold maxLen; omega))
theorem CallH.bldL {E : Env} {P : Program} {ρ σ : Ren} {st : St} {f : FuncId} {N0 : List Loc} {k : KH} {tas : List (Option Nat)} (L : Lays.n170 P σ) (X : Builder.Extra P ρ) (id : Nat) (b : Bytes) (hf : σ.f 170 = f) (T e : TypeId) (h72 : σ.t 72 = T) (h5 : σ.t 5 = e) (g72 : ρ.t 72 = T) (g5 : ρ.t 5 = e) (H2 : List AObj) (k2 : List Nat)
    (hid : st.H[id]? = some (.mp (.bld T e b))) (hlen : b.length ≤ 140737488355328)
    (eH : mergeH st.H (maskH [id] 0 st.H) (maskH [id] 0 st.H) = H2) (eK : mergeK st.k (maskK [] 0 st.k) (maskK [] 0 st.k) = k2)
    (hk : k (.int .i64 (b.length : Int)) none H2 k2 (N0 ++ wLocs (maskH [id] 0 st.H) (maskK [] 0 st.k) ((maskK [] 0 st.k).length - (maskK [] 0 st.k).length)) (wLocs (maskH [id] 0 st.H) (maskK [] 0 st.k) ((maskK [] 0 st.k).length - (maskK [] 0 st.k).length))) : CallH E P st f [.ptr id 0] N0 k tas := by
  subst hf
  refine .objs [id] [] [] rfl _ none _ _ (FnW.bldLen L X h72 h5 g72 g5 (maskH_one hid).1 hlen) ?_
  rw [eH, eK]; exact hk
end Go.Pm
