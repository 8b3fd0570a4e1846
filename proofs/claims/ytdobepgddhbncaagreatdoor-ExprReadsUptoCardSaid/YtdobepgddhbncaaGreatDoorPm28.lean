/-
  Generic: contracts of functions that are handed objects: walks of their own, calls of them.
-/
import Derived.Test.YtdobepgddhbncaaGreatDoorPm27
open _root_.List renaming mem_of_getElem? -> aPr
namespace Go.Pm
open Go Go.RowKit
set_option linter.unusedSimpArgs false
set_option linter.unusedVariables false
theorem aEF {a : AV} (h : a.puD = true) (p : Nat -> Prop) : IdP p a := by
  unfold AV.puD at h
  split at h
  · exact .agg _ fun c hc => u0 (List.all_eq_true.1 h c hc) p
  · rw [Bool.and_eq_true] at h
    exact .fn _ _ _ (fun c hc => u0 (List.all_eq_true.1 h.1 c hc) p) fun c hc => u0 (List.all_eq_true.1 h.2 c hc) p
  · exact u0 h p
theorem aKT {a : AV} (h : a.puR = true) (p : Nat -> Prop) : IdP p a := by
  unfold AV.puR at h
  split at h
  · exact .tup _ fun c hc => aEF (List.all_eq_true.1 h c hc) p
  · exact aEF h p
def ofB (args : List AV) (H H' : List AObj) (k k' : List Nat) (r : AV) : Bool :=
  args.all (argB H.length) && (H.all (aBo H.length) && (H'.all (aFz H.length) && (r.puR && (Nat.beq H'.length H.length && (Nat.ble k.length k'.length &&
    (H.all (fun x => match x with | .cells _ _ tg => tgsB k k.length tg | _ => true) && H'.all (fun x => match x with | .cells _ _ tg => tgsB k k'.length tg | _ => true)))))))
theorem FnW.of_evB {E : Env} {P : Program} {T : Tab} {rows : List Nat} (hT : TOk P T) (hm : P.follows .mixedOrders = true) {f : FuncId} {fn : Func} {code : Code} {args : List AV} {H H' : List AObj} {k k' : List Nat} {r : AV}
    (hf : P.funcs[f]? = some fn) (hb : fn.body = some code) (hname : (fn.name == "runtime.NumGoroutine") = false) (hck : o9 T fn.ntmps code = true) (hargs : Nat.ble args.length fn.ntmps = true) (hB : ofB args H H' k k' r = true)
    (h : (∀ a, a ∈ args -> Wf a) -> evK ⟨E, P, T, rows, H.length, k.length⟩ code (EndW E T H.length k.length fn.results.toList r none H' k') (St.initW args H k)) : FnW E P f args H k r none H' k' := by
  unfold ofB at hB
  simp only [Bool.and_eq_true] at hB
  obtain ⟨b1, b2, b3, b4, b5, b6, b7, b8⟩ := hB
  have hal : ∀ m, m < H.length -> uL H m := fun m hm => by
    have := List.all_eq_true.1 b2 _ (List.getElem_mem hm)
    have hg := List.getElem?_eq_getElem hm
    revert this hg
    cases hx : H[m] with
    | cells t cs tg =>
      cases cs with
      | nil => intro h; cases h
      | cons c cs => intro _ hg; exact ⟨t, c, cs, tg, hg⟩
    | mp x => intro h; cases h
    | dead => intro h; cases h
  have one : ∀ c, arg1 H.length c = true -> IdP (uL H) c := fun c h => by
    unfold arg1 at h
    split at h
    · exact .ptr _ _ (hal _ (by simpa [Nat.blt_eq] using h))
    · exact u0 h _
  refine FnW.of_ev (rows := rows) hT hm hf hb hname hck hargs (Nat.eq_of_beq_eq_true b5) (Nat.le_of_ble_eq_true b6) (fun a ha => ?_) (fun i t cs tg hi => ⟨fun c hc => ?_, ?_⟩) (aKT b4 _) (fun i hi => by cases hi) (fun i t cs tg hi => ⟨fun c hc => ?_, ?_⟩) (fun i t tg hi => ?_) h
  · have h1 := List.all_eq_true.1 b1 a ha
    unfold argB at h1
    split at h1
    · exact .ptr _ _ (hal _ (by simpa [Nat.blt_eq] using h1))
    · rw [Bool.and_eq_true, List.all_eq_true, List.all_eq_true] at h1
      exact .fn _ _ _ (fun c hc => one c (h1.1 c hc)) (fun c hc => one c (h1.2 c hc))
    · exact aEF h1 _
  · rcases aAb (List.all_eq_true.1 b2 _ (aPr hi)) with ⟨m, off, rfl, hm⟩ | ⟨_, hcb⟩
    · rw [List.mem_singleton.1 hc]; exact .ptr _ _ (hal _ hm)
    · exact u0 (hcb c hc) _
  · exact aIa (List.all_eq_true.1 b7 _ (aPr hi))
  · rcases aAc (List.all_eq_true.1 b3 _ (aPr hi)) with ⟨m, off, rfl, hm⟩ | ⟨_, hcb⟩
    · rw [List.mem_singleton.1 hc]; exact .ptr _ _ (hal _ hm)
    · exact u0 (hcb c hc) _
  · exact aIa (List.all_eq_true.1 b8 _ (aPr hi))
  · have := List.all_eq_true.1 b2 _ (aPr hi)
    cases this
theorem aK.ren {E : Env} {P : Program} {st : St} {f : FuncId} {args : List AV} {N0 : List Loc} {k : KH} {args0 : List AV} {H0 H0' : List AObj} {k0 k0' : List Nat} {r : AV} (σ τ : List Nat) (H2 : List AObj) (k2 : List Nat) (h : FnW E P f args0 H0 k0 r none H0' k0')
    (hb : renB args0 H0 H0' k0 σ τ st.H.length st.k.length = true) (hr : r.puR = true) (hg : (H0'.all fun x => match x with | .cells _ _ tg => tg.all fun p => Nat.blt p.2 k0'.length | _ => true) = true) (hg0 : (H0.all fun x => match x with | .cells _ _ tg => tg.all fun p => Nat.blt p.2 k0.length | _ => true) = true)
    (eA : args0.map (renA σ) = args) (eH : pW σ τ st.k.length H0 st.H.length 0 = n8 σ 0 st.H) (eK : lM τ k0 st.k.length 0 = pN τ 0 st.k)
    (eH2 : nO st.H (n8 σ 0 st.H) (pW σ τ st.k.length H0' st.H.length 0) = H2) (eK2 : o6 st.k (pN τ 0 st.k) (lM τ k0' st.k.length 0 ++ k0'.drop τ.length) = k2)
    (hk : k r none H2 k2 (N0 ++ p8 (n8 σ 0 st.H) (pN τ 0 st.k) ((lM τ k0' st.k.length 0 ++ k0'.drop τ.length).length - (pN τ 0 st.k).length)) (p8 (n8 σ 0 st.H) (pN τ 0 st.k) ((lM τ k0' st.k.length 0 ++ k0'.drop τ.length).length - (pN τ 0 st.k).length))) : aK E P st f args N0 k := by
  have hw := FnW.ren h σ τ st.H.length st.k.length hb hr rfl hg hg0
  rw [eA, eH, eK] at hw
  refine .objs σ τ r none _ _ hw ?_
  rw [eH2, eK2]; exact hk
end Go.Pm
