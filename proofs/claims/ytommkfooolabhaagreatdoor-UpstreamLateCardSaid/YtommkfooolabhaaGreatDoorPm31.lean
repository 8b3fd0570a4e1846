/-
  Generic: rules of one step each, and a way to walk code without loops by them. No program in sight.
-/
import Derived.Test.YtommkfooolabhaaGreatDoorPm25
import Derived.Test.YtommkfooolabhaaGreatDoorPm28
namespace Go.Pm
open Go Go.RowKit
set_option linter.unusedSimpArgs false
set_option linter.unusedVariables false
class Ok (E : Env) {α : Type} (o : Option α) (P : outParam (α → Prop)) : Prop where
  ok : ∀ r, o = some r → P r
class Enc (α : Type) (f : outParam (α → AV)) : Prop where
  it : True
instance : Enc Bytes AV.str := ⟨trivial⟩
instance : Enc UInt8 byteAV := ⟨trivial⟩
instance : Enc Int (AV.int .i64) := ⟨trivial⟩
instance : Enc Bool AV.bool := ⟨trivial⟩
instance : Enc (List Bytes) (fun x : List Bytes => AV.list 1 (x.map AV.str)) := ⟨trivial⟩
section
variable {α β : Type} {r : β} {g : Bool} {K : AV → Prop}
theorem nSlcS {s x : Bytes} {a b : Int} (hx : slc s a b = some x) (c : K (.str x)) : (g = true → 0 ≤ a ∧ a ≤ b ∧ b ≤ (s.length : Int)) ∧ NormE (.str ((s.drop a.toNat).take (b.toNat - a.toNat))) K :=
  ⟨fun _ => (slc_some hx).1, .to (.str x) (fun _ => congrArg AV.str (slc_some hx).2.symm) c⟩
theorem nGslcS {s x : Bytes} {a b : Int} (hx : gslc g s a b = some x) (c : K (.str x)) : (g = true → 0 ≤ a ∧ a ≤ b ∧ b ≤ (s.length : Int)) ∧ NormE (.str ((s.drop a.toNat).take (b.toNat - a.toNat))) K :=
  ⟨(gslc_some hx).1, .to (.str x) (fun _ => congrArg AV.str (gslc_some hx).2.symm) c⟩
theorem nSlcL {f : α → AV} {sz sz' : Nat} {s x : List α} {a b : Int} (hs : sz = sz') (hx : slc s a b = some x) (c : K (.list sz (x.map f))) :
    ((g = true → 0 ≤ a ∧ a ≤ b ∧ b ≤ ((s.map f).length : Int)) ∧ sz = sz') ∧ NormE (.list sz (((s.map f).drop a.toNat).take (b.toNat - a.toNat))) K :=
  ⟨⟨fun _ => slc_cond f (slc_some hx).1, hs⟩, .to (.list sz (x.map f)) (fun _ => (slc_list sz f _ _ _).trans (congrArg (fun y => AV.list sz (y.map f)) (slc_some hx).2.symm)) c⟩
theorem nSlcL' {f : α → AV} {sz sz' : Nat} {s x : List α} {a : Int} (hs : sz = sz') (hx : slc s a (s.length : Int) = some x) (c : K (.list sz (x.map f))) :
    ((g = true → 0 ≤ a ∧ a ≤ ((s.map f).length : Int) ∧ ((s.map f).length : Int) ≤ ((s.map f).length : Int)) ∧ sz = sz') ∧ NormE (.list sz (((s.map f).drop a.toNat).take (((s.map f).length : Int).toNat - a.toNat))) K :=
  ⟨⟨fun _ => slc_cond' f (slc_some hx).1, hs⟩, .to (.list sz (x.map f)) (fun _ => (slc_list' sz f _ _).trans (congrArg (fun y => AV.list sz (y.map f)) (slc_some hx).2.symm)) c⟩
theorem nIdx {l : List α} {n : Int} {x : α} {K : α → Prop} (hx : idx l n = some x) (c : K x) : ∃ x, (g = true → 0 ≤ n ∧ l[n.toNat]? = some x) ∧ K x := ⟨x, fun _ => idx_some hx, c⟩
theorem nGidx [Inhabited α] {l : List α} {n : Int} {x : α} {K : α → Prop} (hx : gidx g l n = some x) (c : K x) : ∃ x, (g = true → 0 ≤ n ∧ l[n.toNat]? = some x) ∧ K x := ⟨x, gidx_some hx, c⟩
theorem nIdxM {f : α → AV} {l : List α} {n : Int} {x : α} (hx : idx l n = some x) (c : K (f x)) : ∃ e, (g = true → 0 ≤ n ∧ (l.map f)[n.toNat]? = some e) ∧ K e := ⟨f x, fun _ => idx_map f hx, c⟩
theorem nGidxM [Inhabited α] {f : α → AV} {l : List α} {n : Int} {x : α} (hx : gidx g l n = some x) (c : K (f x)) : ∃ e, (g = true → 0 ≤ n ∧ (l.map f)[n.toNat]? = some e) ∧ K e := ⟨f x, gidx_map f hx, c⟩
theorem nCat {s t x : Bytes} (hx : cat s t = some x) (c : K (.str x)) : (g = true → s.length + t.length ≤ maxLen) ∧ NormE (.str (s ++ t)) K := ⟨fun _ => (cat_some hx).1, .to (.str x) (fun _ => congrArg AV.str (cat_some hx).2.symm) c⟩
theorem nGcat {s t x : Bytes} (hx : gcat g s t = some x) (c : K (.str x)) : (g = true → s.length + t.length ≤ maxLen) ∧ NormE (.str (s ++ t)) K := ⟨(gcat_some hx).1, .to (.str x) (fun _ => congrArg AV.str (gcat_some hx).2.symm) c⟩
theorem nApp {f : α → AV} [Enc α f] {e sz : Nat} {s t x : List α} (hx : app e s t = some x) (c : K (.list sz (x.map f))) :
    ((s.map f).length + (t.map f).length ≤ maxLen ∧ ((s.map f).length + (t.map f).length) * e ≤ 140737488355328) ∧ NormE (.list sz (s.map f ++ t.map f)) K :=
  ⟨app_cond f (app_some hx).1, .to (.list sz (x.map f)) (fun _ => (app_list sz f _ _).trans (congrArg (fun y => AV.list sz (y.map f)) (app_some hx).2.symm)) c⟩
theorem nOff {f : α → AV} {l : List α} {n : Int} {x : α} (hx : idx l n = some x) (c : K (f x)) : optE (l.map f)[0 + n.toNat * 1]? K := optE.mk (off_get f hx) c
theorem nDrop {f : α → AV} {l : List α} {n : Int} {x : α} (hx : idx l n = some x) (c : K (f x)) : optE ((l.map f).drop (n.toNat * 1))[0]? K := optE.mk (drop_get f hx) c
theorem nSeti {f : α → AV} {l x : List α} {n : Int} {y : α} {K : List AV → Prop} {a b : Bool} {p q : Nat} {W : Prop} (ha : a = true) (hp : p = q) (hb : b = true) (hx : seti l n y = some x) (c : K (x.map f)) :
    (a = true ∧ p = q ∧ b = true ∧ 0 + n.toNat * 1 + 1 ≤ (l.map f).length) ∧ ∃ cs, (W → splice (l.map f) (0 + n.toNat * 1) [f y] = cs) ∧ K cs :=
  ⟨⟨ha, hp, hb, seti_len f (seti_some hx).1 0 rfl⟩, x.map f, fun _ => seti_map' f y (seti_some hx).1 (seti_some hx).2, c⟩
theorem nSetU {l x : List UInt8} {n m : Int} {K : List AV → Prop} {a b : Bool} {p q : Nat} (ha : a = true) (hp : p = q) (hb : b = true) (hx : seti l n (u8 m) = some x) (c : K (x.map byteAV)) :
    (a = true ∧ p = q ∧ b = true ∧ 0 + n.toNat * 1 + 1 ≤ (l.map byteAV).length) ∧ ∃ cs, (Wf (.int .u8 m) → splice (l.map byteAV) (0 + n.toNat * 1) [.int .u8 m] = cs) ∧ K cs :=
  ⟨⟨ha, hp, hb, seti_len byteAV (seti_some hx).1 0 rfl⟩, x.map byteAV, fun hw => seti_u8 hw (seti_some hx).1 (seti_some hx).2, c⟩
theorem nCall {E : Env} {o : Option α} {P : α → Prop} [i : Ok E o P] {x : α} (hx : o = some x) : P x := i.ok x hx
theorem nGcall {E : Env} [Inhabited α] {o : Option α} {P : α → Prop} [i : Ok E o P] {x : α} (hx : gcall g o = some x) : g = true → P x := fun hg => i.ok x (gcall_some hx hg)
theorem wLen {f : α → AV} {l : List α} (c : K (.int .i64 (l.length : Int))) : NormE (.int .i64 ((l.map f).length : Int)) K := .to _ (fun _ => len_list f l) c
theorem wBytes1 {n : Int} (c : K (.list 1 ([u8 n].map byteAV))) : NormE (.list 1 [.int .u8 n]) K := .to _ bytes1 c
theorem wBytes2 {n m : Int} (c : K (.list 1 ([u8 n, u8 m].map byteAV))) : NormE (.list 1 [.int .u8 n, .int .u8 m]) K := .to _ bytes2 c
theorem wUp {σ ρ : Type} {v : ρ} {y : σ ⊕ ρ} {z : ρ} (h : some (Sum.inr v) = some y) (hr : ∀ r', y = .inr r' → r' = z) : some v = some z := congrArg some (hr v (Option.some.inj h).symm)
theorem wHl {σ ρ : Type} {body : σ → Option (σ ⊕ ρ)} {r : ρ} {n : Nat} {v : σ} {y : σ ⊕ ρ} (h : some (Sum.inl v) = some y) (hl : ∀ x', y = .inl x' → loopN body n x' = some r) : loopN body n v = some r := hl v (Option.some.inj h).symm
theorem wOrd {a : List Oper} {ft : List (List Loc × List Loc)} {X : Prop} (h : ordOk a ft = true) (c : X) : ordOk a ft = true ∧ X := ⟨h, c⟩
end
theorem tr3' {α β γ δ ε : Type} {a : α} {b : β} {c : γ} {d : δ} {e : ε} {X : Prop} (h : X) : a = a ∧ b = b ∧ (c = c ∧ d = d ∧ e = e) ∧ X := ⟨rfl, rfl, ⟨rfl, rfl, rfl⟩, h⟩
theorem G {P : Prop} (w : P := by
  first
  | (refine Gho.to _ _ _ [] ?_ ?_ rfl rfl rfl ?_ <;> repeat' (first | exact trivial | exact rfl | refine tr3 ?_ | refine tr3' ?_ | refine ⟨?_, ?_⟩ | exact noB_map _ (fun _ => rfl) _ | refine and_tt' ?_ ?_))
  | (refine Gho.to _ _ _ [?_] ?_ ?_ ?_ rfl ?_ ?_
     rotate_right
     repeat' (first | exact trivial | exact rfl | refine tr3 ?_ | refine tr3' ?_ | refine ⟨?_, ?_⟩ | exact noB_map _ (fun _ => rfl) _ | refine and_tt' ?_ ?_))
  | (refine Gho.to _ _ _ [?_, ?_] ?_ ?_ ?_ rfl ?_ ?_
     rotate_right
     repeat' (first | exact trivial | exact rfl | refine tr3 ?_ | refine tr3' ?_ | refine ⟨?_, ?_⟩ | exact noB_map _ (fun _ => rfl) _ | refine and_tt' ?_ ?_))) : P := w
theorem gT {E : Env} {nb nk : Nat} {st : St} {L : List Slot} {H : List AObj} {k : List Nat} (r : List Nat)
    (hH : KeepH k.length (fun i => r.getD i 0) st.H H := by repeat' (first | exact trivial | exact rfl | refine ⟨?_, ?_⟩))
    (hN : keepN H.length H = true := by repeat' (first | exact rfl | refine keepN_d ?_ | refine keepN_m ?_ | refine keepN_c ?_ ?_ | exact noB_map _ (fun _ => rfl) _ | exact noB_flat _ (fun _ => rfl) _))
    (hK : keepK st.k r k = true := by rfl) (hb : Nat.ble nb H.length = true := by rfl) (hi : idOn nk k.length r = true := by rfl)
    (hL : KeepL st H.length k.length (fun i => r.getD i 0) L := by repeat' (first | exact trivial | refine tr3 ?_ | refine tr3' ?_ | exact rfl | exact noB_map _ (fun _ => rfl) _ | exact noB_fn (by assumption) _ | refine ⟨?_, ?_⟩)) : Gho E nb nk st (St.of L H k) :=
  .to L H k r hH hN hK hb hi hL
theorem gI {E : Env} {nb nk : Nat} {st : St} {L : List Slot} {H : List AObj} {k : List Nat} (r q : List Nat)
    (hH : KeepHI k.length (fun i => r.getD i 0) (fun i => q.getD i 0) st.H q H := by
      repeat' (first | exact trivial | exact rfl | refine ⟨?_, ?_⟩ | exact renI_pu (puB_flat _ (fun _ => rfl) _) | exact renI_pu (puB_map _ (fun _ => rfl) _) | (simp only [List.length_set] <;> rfl)))
    (hO : onceO q H = true := by rfl)
    (hN : keepN H.length H = true := by repeat' (first | exact rfl | refine keepN_d ?_ | refine keepN_m ?_ | refine keepN_c ?_ ?_ | exact noB_map _ (fun _ => rfl) _ | exact noB_flat _ (fun _ => rfl) _))
    (hK : keepK st.k r k = true := by rfl) (hb : idOn nb H.length q = true := by rfl) (hi : idOn nk k.length r = true := by rfl)
    (hL : KeepLI st H.length k.length (fun i => r.getD i 0) (fun i => q.getD i 0) L := by repeat' (first | exact trivial | refine tr3 ?_ | refine tr3' ?_ | exact rfl | exact noB_map _ (fun _ => rfl) _ | exact noB_fn (by assumption) _ | refine ⟨?_, ?_⟩)) : Gho E nb nk st (St.of L H k) :=
  .toI L H k r q hH hO hN hK hb hi hL
theorem W {P : Prop} (w : P := by
  repeat' (conv => whnf
           first
    | with_reducible exact trivial
    | with_reducible refine SeqN.go ?_
    | with_reducible refine SeqJ.go ?_
    | with_reducible refine Br.of h (fun ht h => ?_) fun ht h => ?_
    | with_reducible refine wOrd (by kernel_rfl) ?_
    | refine ⟨rfl, ?_⟩
    | refine ⟨⟨rfl, rfl, rfl⟩, ?_⟩
    | refine ⟨⟨rfl, rfl, rfl, Nat.le_of_ble_eq_true rfl⟩, _, fun _ => rfl, ?_⟩
    | refine ⟨Nat.le_of_ble_eq_true rfl, ?_⟩
    | (with_reducible refine bind_elim h ?_
       intro x hx h
       first
       | refine nSlcS hx ?_
       | refine nIdx hx ?_
       | refine nIdxM hx ?_
       | (replace hx := nCall (E := E) hx; first | refine CallH.data _ _ rfl hx ?_)
       | refine nCat hx ?_
       | refine nSlcL rfl hx ?_
       | refine nSlcL' rfl hx ?_
       | refine nGidx hx ?_
       | refine nGidxM hx ?_
       | refine nGslcS hx ?_
       | refine nGcat hx ?_
       | refine nApp hx ?_
       | refine nOff hx ?_
       | refine nDrop hx ?_
       | refine nSeti rfl rfl rfl hx ?_
       | refine nSetU rfl rfl rfl hx ?_
       | (replace hx := nGcall (E := E) hx; first | refine CallF.mk _ false hx ⟨rfl, ?_⟩ | refine CallF.mk _ false (fun hg => FnR.drop (hx hg)) ⟨rfl, ?_⟩))
    | refine wLen ?_
    | refine wBytes1 ?_
    | refine wBytes2 ?_
    | refine NormE.same ?_
    | refine Or.inl ?_
    | refine ⟨⟨rfl, rfl⟩, ?_⟩
    | refine ⟨⟨Nat.le_of_ble_eq_true rfl, Nat.le_of_ble_eq_true rfl⟩, ?_⟩
    | refine ⟨⟨rfl, rfl, Nat.le_of_ble_eq_true rfl⟩, ?_⟩
    | refine ⟨⟨rfl, rfl, rfl, rfl⟩, ?_⟩
    | refine ⟨id, ?_⟩
    | refine ⟨fun hg => and_l hg, ?_⟩
    | refine ⟨fun hg => and_r hg, ?_⟩
    | refine ⟨fun _ => ⟨by decide, by decide⟩, ?_⟩
    | refine ⟨_, _, ⟨rfl, rfl⟩, ?_⟩
    | refine ⟨_, rfl, ?_⟩
    | refine ⟨none, trivial, ?_⟩
    | (with_reducible refine chk_elim h ?_
       intro q h
       first
       | refine ⟨fun _ => q, ?_⟩
       | refine ⟨q, ?_⟩
       | refine ⟨⟨fun _ => q, Nat.le_of_ble_eq_true rfl⟩, ?_⟩
       | refine ⟨⟨Nat.le_of_ble_eq_true rfl, arr_fits _ q⟩, .to _ (fun _ => arr_load _ q) ?_⟩)
    | (replace h := wUp h (by assumption))
    | (refine ⟨⟨(_, _), wHl h (by assumption)⟩, Nat.lt_succ_self _, ?_⟩
       first
       | (refine Gho.to _ _ _ [] ?_ ?_ rfl rfl rfl ?_ <;> repeat' (first | exact trivial | exact rfl | refine tr3 ?_ | refine tr3' ?_ | refine ⟨?_, ?_⟩ | exact noB_map _ (fun _ => rfl) _ | exact noB_fn (by assumption) _ | refine and_tt' ?_ ?_))
       | (refine Gho.to _ _ _ [?_] ?_ ?_ ?_ rfl ?_ ?_
          rotate_right
          repeat' (first | exact trivial | exact rfl | refine tr3 ?_ | refine tr3' ?_ | refine ⟨?_, ?_⟩ | exact noB_map _ (fun _ => rfl) _ | exact noB_fn (by assumption) _ | refine and_tt' ?_ ?_))
       | (refine Gho.to _ _ _ [?_, ?_] ?_ ?_ ?_ rfl ?_ ?_
          rotate_right
          repeat' (first | exact trivial | exact rfl | refine tr3 ?_ | refine tr3' ?_ | refine ⟨?_, ?_⟩ | exact noB_map _ (fun _ => rfl) _ | exact noB_fn (by assumption) _ | refine and_tt' ?_ ?_)))
    | (cases h; exact RetE.plain ⟨rfl, rfl, rfl⟩)
    | (cases h; exact RetE.own _ _ rfl rfl rfl rfl ⟨rfl, rfl⟩)
    | (cases h; done)
    | (cases h; refine RetE.plain ?_; repeat' (first | exact rfl | refine ⟨?_, ?_⟩ | exact Nat.le_of_ble_eq_true rfl | refine ⟨_, rfl, ?_⟩ | exact puB_map _ (fun _ => rfl) _ | refine and_tt' ?_ ?_))
    | ((try cases h); refine Gho.to _ _ _ [] ?_ ?_ rfl rfl rfl ?_ <;> repeat' (first | exact trivial | exact rfl | refine tr3 ?_ | refine tr3' ?_ | refine ⟨?_, ?_⟩ | exact noB_map _ (fun _ => rfl) _ | exact noB_fn (by assumption) _ | refine and_tt' ?_ ?_))
    | ((try cases h); refine Gho.to _ _ _ [?_] ?_ ?_ ?_ rfl ?_ ?_
       rotate_right
       repeat' (first | exact trivial | exact rfl | refine tr3 ?_ | refine tr3' ?_ | refine ⟨?_, ?_⟩ | exact noB_map _ (fun _ => rfl) _ | exact noB_fn (by assumption) _ | refine and_tt' ?_ ?_))
    | ((try cases h); refine Gho.to _ _ _ [?_, ?_] ?_ ?_ ?_ rfl ?_ ?_
       rotate_right
       repeat' (first | exact trivial | exact rfl | refine tr3 ?_ | refine tr3' ?_ | refine ⟨?_, ?_⟩ | exact noB_map _ (fun _ => rfl) _ | exact noB_fn (by assumption) _ | refine and_tt' ?_ ?_)))) : P := w
end Go.Pm
