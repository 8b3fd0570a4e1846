/-
  Generic: contracts of functions that are handed objects: walks of their own, calls of them.
-/
import Derived.Test.YtommkfooolabhaaGreatDoorPm27
namespace Go.Pm
open Go Go.RowKit
set_option linter.unusedSimpArgs false
set_option linter.unusedVariables false
theorem puD_idP {a : AV} (h : a.puD = true) (p : Nat → Prop) : IdP p a := by
  unfold AV.puD at h
  split at h
  · exact .agg _ fun c hc => puB_idP (List.all_eq_true.1 h c hc) p
  · rw [Bool.and_eq_true] at h
    exact .fn _ _ _ (fun c hc => puB_idP (List.all_eq_true.1 h.1 c hc) p) fun c hc => puB_idP (List.all_eq_true.1 h.2 c hc) p
  · exact puB_idP h p
theorem puR_idP {a : AV} (h : a.puR = true) (p : Nat → Prop) : IdP p a := by
  unfold AV.puR at h
  split at h
  · exact .tup _ fun c hc => puD_idP (List.all_eq_true.1 h c hc) p
  · exact puD_idP h p
def ofB (args : List AV) (H H' : List AObj) (k k' : List Nat) (r : AV) : Bool :=
  args.all (argB H.length) && (H.all (aliveB H.length) && (H'.all (plainB H.length) && (r.puR && (Nat.beq H'.length H.length && (Nat.ble k.length k'.length &&
    (H.all (fun x => match x with | .cells _ _ tg => tgsB k k.length tg | _ => true) && H'.all (fun x => match x with | .cells _ _ tg => tgsB k k'.length tg | _ => true)))))))
def tagsB (args : List AV) (ta : List (Option Nat)) (k k' : List Nat) (r : AV) (tag : Option Nat) : Bool :=
  Nat.ble ta.length args.length && (((args.zip ta).all fun x => match x.2 with | some t => rngB (fun j => Nat.blt j k.length) x.1 t | none => true) && (match tag with | some t => rngB (tokB k k'.length) r t | none => true))
theorem FnT.of_evB {E : Env} {P : Program} {T : Tab} {rows : List Nat} (hT : TOk P T) (hm : P.follows .mixedOrders = true) {f : FuncId} {fn : Func} {code : Code} {args : List AV} {ta : List (Option Nat)} {H H' : List AObj} {k k' : List Nat} {r : AV} {tag : Option Nat}
    (hf : P.funcs[f]? = some fn) (hb : fn.body = some code) (hname : (fn.name == "runtime.NumGoroutine") = false) (hck : codeOk T fn.ntmps code = true) (hargs : Nat.ble args.length fn.ntmps = true) (hB : ofB args H H' k k' r = true) (hC : tagsB args ta k k' r tag = true)
    (h : (∀ a, a ∈ args → Wf a) → evK ⟨E, P, T, rows, H.length, k.length⟩ code (EndW E T H.length k.length fn.results.toList r tag H' k') (St.initT args ta H k)) : FnT E P f args ta H k r tag H' k' := by
  unfold tagsB at hC
  simp only [Bool.and_eq_true] at hC
  obtain ⟨c1, c2, c3⟩ := hC
  unfold ofB at hB
  simp only [Bool.and_eq_true] at hB
  obtain ⟨b1, b2, b3, b4, b5, b6, b7, b8⟩ := hB
  have hal : ∀ m, m < H.length → aliveP H m := fun m hm => by
    have := List.all_eq_true.1 b2 _ (List.getElem_mem hm)
    have hg := List.getElem?_eq_getElem hm
    revert this hg
    cases hx : H[m] with
    | cells t cs tg =>
      cases cs with
      | nil => intro h; cases h
      | cons c cs => intro _ hg; exact ⟨t, c, cs, tg, hg⟩
    | mp x => intro h; cases h
    | dead => intro h; cases h
  have one : ∀ c, arg1 H.length c = true → IdP (aliveP H) c := fun c h => by
    unfold arg1 at h
    split at h
    · exact .ptr _ _ (hal _ (by simpa [Nat.blt_eq] using h))
    · exact puB_idP h _
  refine FnT.of_ev (rows := rows) hT hm hf hb hname hck hargs (Nat.eq_of_beq_eq_true b5) (Nat.le_of_ble_eq_true b6) (fun a ha => ?_) (fun i t cs tg hi => ⟨fun c hc => ?_, ?_⟩) (puR_idP b4 _) (fun i hi => ?_) (fun i t cs tg hi => ⟨fun c hc => ?_, ?_⟩) (fun i t tg hi => ?_) (Nat.le_of_ble_eq_true c1) (fun i t a ha ht => ?_) h
  · have h1 := List.all_eq_true.1 b1 a ha
    unfold argB at h1
    split at h1
    · exact .ptr _ _ (hal _ (by simpa [Nat.blt_eq] using h1))
    · rw [Bool.and_eq_true, List.all_eq_true, List.all_eq_true] at h1
      exact .fn _ _ _ (fun c hc => one c (h1.1 c hc)) (fun c hc => one c (h1.2 c hc))
    · exact puD_idP h1 _
  · rcases alive_cases (List.all_eq_true.1 b2 _ (List.mem_of_getElem? hi)) with ⟨m, off, rfl, hm⟩ | ⟨_, hcb⟩
    · rw [List.mem_singleton.1 hc]; exact .ptr _ _ (hal _ hm)
    · exact puB_idP (hcb c hc) _
  · exact tgsB_ok (List.all_eq_true.1 b7 _ (List.mem_of_getElem? hi))
  · subst hi; exact rngB_ok c3 fun t h => tokB_ok h
  · rcases plain_cases (List.all_eq_true.1 b3 _ (List.mem_of_getElem? hi)) with ⟨m, off, rfl, hm⟩ | ⟨_, hcb⟩
    · rw [List.mem_singleton.1 hc]; exact .ptr _ _ (hal _ hm)
    · exact puB_idP (hcb c hc) _
  · exact tgsB_ok (List.all_eq_true.1 b8 _ (List.mem_of_getElem? hi))
  · have := List.all_eq_true.1 b2 _ (List.mem_of_getElem? hi)
    cases this
  · have ht' : ta[i]? = some (some t) := by
      rw [List.getD_eq_getElem?_getD] at ht
      cases hx : ta[i]? with
      | none => rw [hx] at ht; cases ht
      | some x => rw [hx] at ht; rw [show x = some t from ht]
    have := List.all_eq_true.1 c2 (a, some t) (List.mem_of_getElem? (List.getElem?_zip_eq_some.2 ⟨ha, ht'⟩))
    exact rngB_ok this fun j hj => by simpa [Nat.blt_eq] using hj
theorem FnW.of_evB {E : Env} {P : Program} {T : Tab} {rows : List Nat} (hT : TOk P T) (hm : P.follows .mixedOrders = true) {f : FuncId} {fn : Func} {code : Code} {args : List AV} {H H' : List AObj} {k k' : List Nat} {r : AV}
    (hf : P.funcs[f]? = some fn) (hb : fn.body = some code) (hname : (fn.name == "runtime.NumGoroutine") = false) (hck : codeOk T fn.ntmps code = true) (hargs : Nat.ble args.length fn.ntmps = true) (hB : ofB args H H' k k' r = true)
    (h : (∀ a, a ∈ args → Wf a) → evK ⟨E, P, T, rows, H.length, k.length⟩ code (EndW E T H.length k.length fn.results.toList r none H' k') (St.initW args H k)) : FnW E P f args H k r none H' k' :=
  FnT.of_evB hT hm hf hb hname hck hargs hB (by cases args <;> rfl) h
theorem CallH.renT {E : Env} {P : Program} {st : St} {f : FuncId} {args : List AV} {N0 : List Loc} {k : KH} {tas : List (Option Nat)} {args0 : List AV} {ta0 : List (Option Nat)} {H0 H0' : List AObj} {k0 k0' : List Nat} {r : AV} {tag : Option Nat} (σ τ : List Nat) (H2 : List AObj) (k2 : List Nat) (tag2 : Option Nat) (h : FnT E P f args0 ta0 H0 k0 r tag H0' k0')
    (hb : renB args0 H0 H0' k0 σ τ st.H.length st.k.length = true) (hr : r.puR = true) (hg : (H0'.all fun x => match x with | .cells _ _ tg => tg.all fun p => Nat.blt p.2 k0'.length | _ => true) = true) (hg0 : (H0.all fun x => match x with | .cells _ _ tg => tg.all fun p => Nat.blt p.2 k0.length | _ => true) = true)
    (ht : (match tag with | none => true | some j => tIn k0'.length (Pm.renT τ st.k.length) r j) = true) (hta : taIn k0.length (Pm.renT τ st.k.length) args0 ta0 = true) (htb : taB (renTa (Pm.renT τ st.k.length) args0 ta0) tas = true)
    (eA : args0.map (renA σ) = args) (eH : placeH σ τ st.k.length H0 st.H.length 0 = maskH σ 0 st.H) (eK : placeK τ k0 st.k.length 0 = maskK τ 0 st.k)
    (eH2 : mergeH st.H (maskH σ 0 st.H) (placeH σ τ st.k.length H0' st.H.length 0) = H2) (eK2 : mergeK st.k (maskK τ 0 st.k) (placeK τ k0' st.k.length 0 ++ k0'.drop τ.length) = k2) (eT : tag.map (tRen (Pm.renT τ st.k.length) r) = tag2)
    (hk : k r tag2 H2 k2 (N0 ++ wLocs (maskH σ 0 st.H) (maskK τ 0 st.k) ((placeK τ k0' st.k.length 0 ++ k0'.drop τ.length).length - (maskK τ 0 st.k).length)) (wLocs (maskH σ 0 st.H) (maskK τ 0 st.k) ((placeK τ k0' st.k.length 0 ++ k0'.drop τ.length).length - (maskK τ 0 st.k).length))) : CallH E P st f args N0 k tas := by
  have hw := FnT.ren h σ τ st.H.length st.k.length hb hr ht hta hg hg0
  rw [eA, eH, eK, eT] at hw
  refine .objs σ τ _ htb r tag2 _ _ hw ?_
  rw [eH2, eK2]; exact hk
theorem CallH.ren {E : Env} {P : Program} {st : St} {f : FuncId} {args : List AV} {N0 : List Loc} {k : KH} {tas : List (Option Nat)} {args0 : List AV} {H0 H0' : List AObj} {k0 k0' : List Nat} {r : AV} (σ τ : List Nat) (H2 : List AObj) (k2 : List Nat) (h : FnW E P f args0 H0 k0 r none H0' k0')
    (hb : renB args0 H0 H0' k0 σ τ st.H.length st.k.length = true) (hr : r.puR = true) (hg : (H0'.all fun x => match x with | .cells _ _ tg => tg.all fun p => Nat.blt p.2 k0'.length | _ => true) = true) (hg0 : (H0.all fun x => match x with | .cells _ _ tg => tg.all fun p => Nat.blt p.2 k0.length | _ => true) = true)
    (eA : args0.map (renA σ) = args) (eH : placeH σ τ st.k.length H0 st.H.length 0 = maskH σ 0 st.H) (eK : placeK τ k0 st.k.length 0 = maskK τ 0 st.k)
    (eH2 : mergeH st.H (maskH σ 0 st.H) (placeH σ τ st.k.length H0' st.H.length 0) = H2) (eK2 : mergeK st.k (maskK τ 0 st.k) (placeK τ k0' st.k.length 0 ++ k0'.drop τ.length) = k2)
    (hk : k r none H2 k2 (N0 ++ wLocs (maskH σ 0 st.H) (maskK τ 0 st.k) ((placeK τ k0' st.k.length 0 ++ k0'.drop τ.length).length - (maskK τ 0 st.k).length)) (wLocs (maskH σ 0 st.H) (maskK τ 0 st.k) ((placeK τ k0' st.k.length 0 ++ k0'.drop τ.length).length - (maskK τ 0 st.k).length))) : CallH E P st f args N0 k tas :=
  .renT σ τ H2 k2 none h hb hr hg hg0 rfl (by cases args0 <;> rfl) (by cases args0 <;> rfl) eA eH eK eH2 eK2 rfl hk
end Go.Pm
