/-
  Generic: what stands between a function's text and its plain image: partial steps as options, loops as least fixed points of them. No program in sight.
-/
import Derived.Test.YtdnjgojkpfbimaaGreatDoorPm19
open _root_.List renaming length_map -> aDG
namespace Go.Pm
open Go Go.RowKit
set_option linter.unusedSimpArgs false
set_option linter.unusedVariables false
theorem bind_some {α β : Type} {o : Option α} {f : α -> Option β} {r : β} (h : o.bind f = some r) : ∃ x, o = some x /\ f x = some r := by
  cases o with
  | none => cases h
  | some x => exact ⟨x, rfl, h⟩
theorem bind_elim {α β : Type} {o : Option α} {f : α -> Option β} {r : β} {P : Prop} (h : o.bind f = some r) (k : ∀ x, o = some x -> f x = some r -> P) : P :=
  let ⟨x, h1, h2⟩ := bind_some h
  k x h1 h2
theorem iX {α : Type} {t : Bool} {a b o : α} (h : (bif t then a else b) = o) (ht : t = true) : a = o := by subst ht; exact h
theorem iY {α : Type} {t : Bool} {a b o : α} (h : (bif t then a else b) = o) (ht : t = false) : b = o := by subst ht; exact h
def chk {α : Type} (p : Prop) [Decidable p] (o : Option α) : Option α := if p then o else none
theorem cI {α : Type} {p : Prop} [Decidable p] {o : Option α} {r : α} (h : chk p o = some r) : p /\ o = some r := by
  unfold chk at h
  split at h
  · exact ⟨by assumption, h⟩
  · cases h
theorem chk_elim {α : Type} {p : Prop} [Decidable p] {o : Option α} {r : α} {P : Prop} (h : chk p o = some r) (k : p -> o = some r -> P) : P := k (cI h).1 (cI h).2
def idx {α : Type} (l : List α) (n : Int) : Option α := bif decide (0 <= n) then l[n.toNat]? else none
theorem idx_some {α : Type} {l : List α} {n : Int} {x : α} (h : idx l n = some x) : 0 <= n /\ l[n.toNat]? = some x := by
  unfold idx at h
  cases hn : decide (0 <= n) with
  | false => rw [hn] at h; cases h
  | true => rw [hn] at h; exact ⟨of_decide_eq_true hn, h⟩
theorem idx_map {α β : Type} {l : List α} {n : Int} {x : α} (f : α -> β) (h : idx l n = some x) : 0 <= n /\ (l.map f)[n.toNat]? = some (f x) := by
  obtain ⟨h1, h2⟩ := idx_some h
  exact ⟨h1, by simp [h2]⟩
def gidx {α : Type} [Inhabited α] (g : Bool) (l : List α) (n : Int) : Option α := bif g then idx l n else some default
theorem gidx_some {α : Type} [Inhabited α] {g : Bool} {l : List α} {n : Int} {x : α} (h : gidx g l n = some x) (hg : g = true) : 0 <= n /\ l[n.toNat]? = some x := by
  subst hg; exact idx_some h
theorem gidx_map {α β : Type} [Inhabited α] {g : Bool} {l : List α} {n : Int} {x : α} (f : α -> β) (h : gidx g l n = some x) (hg : g = true) : 0 <= n /\ (l.map f)[n.toNat]? = some (f x) := by
  subst hg; exact idx_map f h
def gcall {α : Type} [Inhabited α] (g : Bool) (o : Option α) : Option α := bif g then o else some default
theorem gcall_some {α : Type} [Inhabited α] {g : Bool} {o : Option α} {x : α} (h : gcall g o = some x) (hg : g = true) : o = some x := by subst hg; exact h
def slc {α : Type} (l : List α) (a b : Int) : Option (List α) := chk (0 <= a /\ a <= b /\ b <= (l.length : Int)) (some ((l.drop a.toNat).take (b.toNat - a.toNat)))
theorem slc_some {α : Type} {l : List α} {a b : Int} {x : List α} (h : slc l a b = some x) : (0 <= a /\ a <= b /\ b <= (l.length : Int)) /\ x = (l.drop a.toNat).take (b.toNat - a.toNat) := by
  obtain ⟨h1, h2⟩ := cI h
  exact ⟨h1, (Option.some.inj h2).symm⟩
def gslc {α : Type} (g : Bool) (l : List α) (a b : Int) : Option (List α) := chk (g = true -> 0 <= a /\ a <= b /\ b <= (l.length : Int)) (some ((l.drop a.toNat).take (b.toNat - a.toNat)))
theorem gslc_some {α : Type} {g : Bool} {l : List α} {a b : Int} {x : List α} (h : gslc g l a b = some x) : (g = true -> 0 <= a /\ a <= b /\ b <= (l.length : Int)) /\ x = (l.drop a.toNat).take (b.toNat - a.toNat) := by
  obtain ⟨h1, h2⟩ := cI h
  exact ⟨h1, (Option.some.inj h2).symm⟩
theorem wY {α β : Type} (f : α -> β) (l : List α) (a b : Nat) : ((l.map f).drop a).take b = ((l.drop a).take b).map f := by rw [List.map_take, List.map_drop]
theorem slc_cond {α β : Type} (f : α -> β) {l : List α} {a b : Int} (h : 0 <= a /\ a <= b /\ b <= (l.length : Int)) : 0 <= a /\ a <= b /\ b <= ((l.map f).length : Int) := by rw [aDG]; exact h
def cat (s t : Bytes) : Option Bytes := chk (s.length + t.length <= maxLen) (some (s ++ t))
theorem cat_some {s t x : Bytes} (h : cat s t = some x) : s.length + t.length <= maxLen /\ x = s ++ t := by
  obtain ⟨h1, h2⟩ := cI h
  exact ⟨h1, (Option.some.inj h2).symm⟩
def gcat (g : Bool) (s t : Bytes) : Option Bytes := chk (g = true -> s.length + t.length <= maxLen) (some (s ++ t))
theorem gcat_some {g : Bool} {s t x : Bytes} (h : gcat g s t = some x) : (g = true -> s.length + t.length <= maxLen) /\ x = s ++ t := by
  obtain ⟨h1, h2⟩ := cI h
  exact ⟨h1, (Option.some.inj h2).symm⟩
def app {α : Type} (e : Nat) (s t : List α) : Option (List α) := chk (s.length + t.length <= maxLen /\ (s.length + t.length) * e <= 140737488355328) (some (s ++ t))
theorem app_some {α : Type} {e : Nat} {s t x : List α} (h : app e s t = some x) : (s.length + t.length <= maxLen /\ (s.length + t.length) * e <= 140737488355328) /\ x = s ++ t := by
  obtain ⟨h1, h2⟩ := cI h
  exact ⟨h1, (Option.some.inj h2).symm⟩
theorem app_cond {α β : Type} (f : α -> β) {e : Nat} {s t : List α} (h : s.length + t.length <= maxLen /\ (s.length + t.length) * e <= 140737488355328) :
    (s.map f).length + (t.map f).length <= maxLen /\ ((s.map f).length + (t.map f).length) * e <= 140737488355328 := by rw [aDG, aDG]; exact h
theorem app_list {α : Type} (sz : Nat) (f : α -> AV) (s t : List α) : AV.list sz (s.map f ++ t.map f) = AV.list sz ((s ++ t).map f) := by rw [List.map_append]
theorem slc_list {α : Type} (sz : Nat) (f : α -> AV) (l : List α) (a b : Nat) : AV.list sz (((l.map f).drop a).take b) = AV.list sz (((l.drop a).take b).map f) := by rw [wY]
theorem len_list {α : Type} (f : α -> AV) (l : List α) : AV.int .i64 ((l.map f).length : Int) = AV.int .i64 (l.length : Int) := by rw [aDG]
def seti {α : Type} (l : List α) (n : Int) (x : α) : Option (List α) := chk (0 <= n /\ n < (l.length : Int)) (some (l.set n.toNat x))
theorem seti_some {α : Type} {l x' : List α} {n : Int} {x : α} (h : seti l n x = some x') : (0 <= n /\ n < (l.length : Int)) /\ x' = l.set n.toNat x := by
  obtain ⟨h1, h2⟩ := cI h
  exact ⟨h1, (Option.some.inj h2).symm⟩
theorem seti_len {α β : Type} (f : α -> β) {l : List α} {n : Int} (h : 0 <= n /\ n < (l.length : Int)) (off : Nat) (ho : off = 0) : off + n.toNat * 1 + 1 <= (l.map f).length := by
  rw [aDG]; omega
theorem sV {α : Type} (f : α -> AV) {l : List α} {n : Int} (x : α) (h : 0 <= n /\ n < (l.length : Int)) : splice (l.map f) (0 + n.toNat * 1) [f x] = (l.set n.toNat x).map f := by
  rw [Nat.zero_add, Nat.mul_one, uU (by rw [aDG]; omega), List.map_set]
def u8 (n : Int) : UInt8 := UInt8.ofNat n.toNat
theorem z1 {n : Int} (h : Wf (.int .u8 n)) : ((u8 n).toNat : Int) = n := by
  cases h with
  | int _ _ h =>
  have h0 : 0 <= n /\ n < 256 := by
    rw [<- h]
    simp only [IntKind.wrap, IntKind.bits, IntKind.signed]
    have h1 := Int.emod_nonneg n (show (2 ^ 8 : Int) ≠ 0 by decide)
    have h2 := Int.emod_lt_of_pos n (show (0 : Int) < 2 ^ 8 by decide)
    simp at h1 h2 ⊢
    omega
  unfold u8
  rw [UInt8.toNat_ofNat_of_lt' (by simp [UInt8.size]; omega)]
  omega
theorem hP {n : Int} (h : Wf (.int .u8 n)) : AV.int .u8 n = byteAV (u8 n) := by
  unfold byteAV; rw [z1 h]
theorem bytes1 {n : Int} (h : Wf (.list 1 [.int .u8 n])) : AV.list 1 [.int .u8 n] = AV.list 1 ([u8 n].map byteAV) := by
  cases h with
  | list _ _ _ h' _ => rw [List.map_cons, List.map_nil, <- hP (h' 0 _ 0 _ rfl rfl)]
theorem bytes2 {n m : Int} (h : Wf (.list 1 [.int .u8 n, .int .u8 m])) : AV.list 1 [.int .u8 n, .int .u8 m] = AV.list 1 ([u8 n, u8 m].map byteAV) := by
  cases h with
  | list _ _ _ h' _ => rw [List.map_cons, List.map_cons, List.map_nil, <- hP (h' 0 _ 0 _ rfl rfl), <- hP (h' 1 _ 0 _ rfl rfl)]
def imin (m n : Int) : Int := if n < m then n else m
def imax (m n : Int) : Int := if n > m then n else m

def loopN {σ ρ : Type} (body : σ -> Option (σ ⊕ ρ)) : Nat -> σ -> Option ρ
  | 0, _ => none
  | n + 1, x => match body x with
    | none => none
    | some (.inl y) => loopN body n y
    | some (.inr r) => some r
theorem nT {σ ρ : Type} {body : σ -> Option (σ ⊕ ρ)} : ∀ {n m : Nat} {x : σ} {r : ρ}, loopN body n x = some r -> n <= m -> loopN body m x = some r
  | 0, _, _, _, h, _ => by cases h
  | n + 1, 0, _, _, _, hm => by omega
  | n + 1, m + 1, x, r, h, hm => by
    unfold loopN at h ⊢
    cases hb : body x with
    | none => rw [hb] at h; cases h
    | some y =>
      rw [hb] at h
      cases y with
      | inl y => exact nT (n := n) h (by omega)
      | inr r' => exact h
noncomputable def loopO {σ ρ : Type} (body : σ -> Option (σ ⊕ ρ)) (x : σ) : Option ρ := open Classical in if h : ∃ n r, loopN body n x = some r then loopN body (Classical.choose h) x else none
theorem eN {σ ρ : Type} {body : σ -> Option (σ ⊕ ρ)} {x : σ} {r : ρ} : loopO body x = some r ↔ ∃ n, loopN body n x = some r := by
  unfold loopO
  constructor
  · intro h
    split at h
    · exact ⟨_, h⟩
    · cases h
  · rintro ⟨n, h⟩
    have hex : ∃ n r, loopN body n x = some r := ⟨n, r, h⟩
    rw [dif_pos hex]
    obtain ⟨r', h'⟩ := Classical.choose_spec hex
    have h1 := nT h (Nat.le_max_left n (Classical.choose hex))
    have h2 := nT h' (Nat.le_max_right n (Classical.choose hex))
    rw [h1] at h2
    rw [h', h2]
theorem aT {σ ρ : Type} (body : σ -> Option (σ ⊕ ρ)) (x : σ) : loopO body x = match body x with
    | none => none
    | some (.inl y) => loopO body y
    | some (.inr r) => some r := by
  refine Option.ext fun r => ?_
  rw [eN]
  cases hb : body x with
  | none =>
    refine ⟨?_, fun h => by cases h⟩
    rintro ⟨n, hn⟩
    cases n with
    | zero => cases hn
    | succ n => unfold loopN at hn; rw [hb] at hn; cases hn
  | some y =>
    cases y with
    | inl y =>
      rw [eN]
      constructor
      · rintro ⟨n, hn⟩
        cases n with
        | zero => cases hn
        | succ n => unfold loopN at hn; rw [hb] at hn; exact ⟨n, hn⟩
      · rintro ⟨n, hn⟩
        exact ⟨n + 1, by unfold loopN; rw [hb]; exact hn⟩
    | inr r' =>
      constructor
      · rintro ⟨n, hn⟩
        cases n with
        | zero => cases hn
        | succ n => unfold loopN at hn; rw [hb] at hn; exact hn
      · intro h
        exact ⟨1, by unfold loopN; rw [hb]; exact h⟩
theorem LoopE.img {E : Env} {nb nk : Nat} {bodyE : (Exit -> St -> Prop) -> St -> Prop} {K : Exit -> St -> Prop} {st : St} {σ ρ : Type} (S : σ -> St) (body : σ -> Option (σ ⊕ ρ)) (x0 : σ) {r : ρ} (h : loopO body x0 = some r) (h0 : Gho E nb nk st (S x0))
    (h1 : ∀ n x y, body x = some y -> (∀ x', y = .inl x' -> loopN body n x' = some r) -> (∀ r', y = .inr r' -> r' = r) ->
      bodyE (fun e s => match e with | .normal => ∃ p : {p : Nat × σ // loopN body p.1 p.2 = some r}, p.1.1 < n + 1 /\ Gho E nb nk s (S p.1.2) | e => K e s) (S x)) : LoopE E nb nk bodyE K st := by
  obtain ⟨n0, hn0⟩ := eN.1 h
  refine ⟨{p : Nat × σ // loopN body p.1 p.2 = some r}, fun p => S p.1.2, fun p => p.1.1, ⟨(n0, x0), hn0⟩, h0, ?_⟩
  rintro ⟨⟨n, x⟩, hx⟩
  cases n with
  | zero => cases hx
  | succ n =>
    dsimp only at hx
    unfold loopN at hx
    cases hb : body x with
    | none => rw [hb] at hx; cases hx
    | some y =>
      rw [hb] at hx
      exact h1 n x y hb (fun x' hx' => by subst hx'; exact hx) fun r' hr' => by subst hr'; exact Option.some.inj hx
theorem noB_map {α : Type} {n : Nat} (f : α -> AV) (h : ∀ x, (f x).noB n = true) (l : List α) : (l.map f).all (AV.noB n) = true := by
  simp only [List.all_eq_true, List.mem_map]
  rintro _ ⟨x, _, rfl⟩
  exact h x
theorem and_tt' {a b : Bool} (h : a = true) (h' : b = true) : (a && b) = true := by rw [h, h']; rfl
theorem puD_app {a b : List AV} (h : a.all AV.puD = true) (h' : b.all AV.puD = true) : (a ++ b).all AV.puD = true := by rw [List.all_append, h, h']; rfl
theorem noB_fn {f : FuncId} {c : List AV} (h : c.all AV.puB = true) (n : Nat) : (AV.fn f [] c).noB n = true := by
  simp only [AV.noB, List.all_nil, Bool.true_and]
  simp only [List.all_eq_true] at h ⊢
  intro x hx
  have := h x hx
  cases x <;> first | exact this | (simp [AV.puB] at this)
theorem puD_of {c : List AV} (h : c.all AV.puB = true) : c.all AV.puD = true := by
  simp only [List.all_eq_true] at h ⊢
  intro x hx
  have := h x hx
  unfold AV.puD
  split
  · simp [AV.puB] at this
  · rename_i a b
    match a, b, this with
    | [], [], _ => rfl
  · exact this
theorem drop_get {α : Type} (f : α -> AV) {l : List α} {n : Int} {x : α} (h : idx l n = some x) : ((l.map f).drop (n.toNat * 1))[0]? = some (f x) := by
  obtain ⟨h1, h2⟩ := idx_some h
  rw [List.getElem?_drop, Nat.add_zero, Nat.mul_one, List.getElem?_map, h2]; rfl
theorem off_get {α : Type} (f : α -> AV) {l : List α} {n : Int} {x : α} (h : idx l n = some x) : (l.map f)[0 + n.toNat * 1]? = some (f x) := by
  obtain ⟨h1, h2⟩ := idx_some h
  rw [Nat.zero_add, Nat.mul_one, List.getElem?_map, h2]; rfl
theorem seti_map' {α : Type} (f : α -> AV) {l l' : List α} {n : Int} (x : α) (h : 0 <= n /\ n < (l.length : Int)) (he : l' = l.set n.toNat x) : splice (l.map f) (0 + n.toNat * 1) [f x] = l'.map f := by
  rw [he]; exact sV f x h
theorem seti_u8 {l l' : List UInt8} {n m : Int} (hw : Wf (.int .u8 m)) (h : 0 <= n /\ n < (l.length : Int)) (he : l' = l.set n.toNat (u8 m)) : splice (l.map byteAV) (0 + n.toNat * 1) [.int .u8 m] = l'.map byteAV := by
  rw [he, hP hw]; exact sV byteAV (u8 m) h
theorem row_text {l : List UInt8} {n : Nat} (h : n <= l.length) : 0 + n <= (l.map byteAV).length /\ ((l.map byteAV).drop 0).take n = (l.take n).map byteAV := by
  rw [aDG, List.drop_zero, List.map_take]; exact ⟨by omega, rfl⟩
theorem slc_cond' {α β : Type} (f : α -> β) {l : List α} {a : Int} (h : 0 <= a /\ a <= (l.length : Int) /\ (l.length : Int) <= (l.length : Int)) : 0 <= a /\ a <= ((l.map f).length : Int) /\ ((l.map f).length : Int) <= ((l.map f).length : Int) := by rw [aDG]; exact h
theorem slc_list' {α : Type} (sz : Nat) (f : α -> AV) (l : List α) (a : Nat) : AV.list sz (((l.map f).drop a).take (((l.map f).length : Int).toNat - a)) = AV.list sz (((l.drop a).take ((l.length : Int).toNat - a)).map f) := by rw [aDG, wY]
theorem Frz.ptr0 {H : List AObj} {id : Nat} {t : TypeId} {cs : List AV} {tg : List (Nat × Nat)} (h : H[id]? = some (.cells t cs tg)) (hp : cs.all AV.puB = true) (hn : 0 < cs.length) : Frz H (.ptr id 0) (.iptr cs) :=
  .ptr id 0 t cs tg cs h rfl hn fun j c c' h1 h2 => by
    rw [Nat.zero_add, h2] at h1
    injection h1 with h1
    subst h1
    exact .pure _ (AV.puB_ok (List.all_eq_true.1 hp _ (List.mem_of_getElem? h2)))
theorem Frz.ptrD {H : List AObj} {id : Nat} {t : TypeId} {cs : List AV} {tg : List (Nat × Nat)} (h : H[id]? = some (.cells t cs tg)) (hp : cs.all AV.puD = true) (hn : 0 < cs.length) : Frz H (.ptr id 0) (.iptr cs) :=
  .ptr id 0 t cs tg cs h rfl hn fun j c c' h1 h2 => by
    rw [Nat.zero_add, h2] at h1
    injection h1 with h1
    subst h1
    exact .pure _ (AV.puD_ok (List.all_eq_true.1 hp _ (List.mem_of_getElem? h2)))
theorem puB_map {α : Type} (f : α -> AV) (h : ∀ x, (f x).puB = true) (l : List α) : (l.map f).all AV.puB = true := by
  simp only [List.all_eq_true, List.mem_map]
  rintro _ ⟨x, _, rfl⟩
  exact h x
theorem flat_len' {α : Type} (c : α -> List AV) (sz : Nat) (h : ∀ x, (c x).length = sz) : ∀ (l : List α), (l.flatMap c).length = l.length * sz
  | [] => by simp
  | x :: l => by rw [List.flatMap_cons, List.length_append, h x, flat_len' c sz h l, List.length_cons, Nat.add_mul]; omega
theorem pM {α : Type} (f : α -> AV) (l : List α) : (l.map f).flatMap AV.cells = l.flatMap fun x => (f x).cells := by rw [List.flatMap_map]
theorem Frz.rows {α : Type} {H : List AObj} {id : Nat} {t : TypeId} {tg : List (Nat × Nat)} (f : α -> AV) (sz : Nat) (hs : 0 < sz) (hc : ∀ x, ((f x).cells).length = sz) (hp : ∀ x, ((f x).cells).all AV.puB = true) {l : List α} {n : Nat} {cs : List AV}
    (h : H[id]? = some (.cells t cs tg)) (hcs : (l.map f).flatMap AV.cells = cs) (hn : n <= l.length) : Frz H (.row id 0 n) (.list sz ((l.take n).map f)) := by
  rw [pM] at hcs
  subst hcs
  refine .row id 0 n t _ tg sz _ h (by simp; omega) (fun e he => by obtain ⟨x, _, rfl⟩ := List.mem_map.1 he; exact hc x) ?_ hs fun i e j c c' hi hj hcc => ?_
  · rw [flat_len' _ sz hc, Nat.zero_add]; exact Nat.mul_le_mul_right _ hn
  · have hi' : (l.map f)[i]? = some e := by
      rw [List.getElem?_map, List.getElem?_take] at hi
      rw [List.getElem?_map]
      split at hi
      · exact hi
      · cases hi
    have h1 := nM (l.map f) (fun e he => by obtain ⟨x, _, rfl⟩ := List.mem_map.1 he; exact hc x) i e j c' hi' hj
    rw [pM, <- Nat.zero_add (i * sz + j), hcc] at h1
    injection h1 with h1
    subst h1
    obtain ⟨x, hx, rfl⟩ := List.mem_map.1 (List.mem_of_getElem? hi')
    exact .pure _ (AV.puB_ok (List.all_eq_true.1 (hp x) _ (List.mem_of_getElem? hj)))
theorem FnR.drop {E : Env} {P : Program} {f : FuncId} {args : List AV} {r : AV} {own : Bool} (h : FnR E P f args r own) : FnR E P f args r false := by
  rcases h with ⟨hb, h⟩ | ⟨_, h⟩
  · refine .inl ⟨hb, fun F w vals h1 h2 h3 => (h F w vals h1 h2 h3).mono ?_⟩
    rintro e w' ⟨v, F', h4, h5, h6, h7, h8, _⟩
    exact ⟨v, F', h4, h5, h6, h7, h8, fun h => by cases h⟩
  · exact .inr ⟨rfl, h⟩
theorem puD_fn {f : FuncId} {c : List AV} (h : c.all AV.puB = true) : (AV.fn f [] c).puD = true := by
  show (([] : List AV).all AV.puB && c.all AV.puB) = true
  rw [h]; rfl
theorem arr_len {α : Type} (f : α -> AV) {l : List α} {n : Nat} (h : l.length = n) : (AV.agg (l.map f)).cells.length = n := by
  show (l.map f).length = n
  rw [aDG, h]
theorem arr_fits {α : Type} (f : α -> AV) {l : List α} {n : Nat} (h : l.length = n) : 0 + n <= (l.map f).length := by rw [aDG, h]; omega
theorem arr_load {α : Type} (f : α -> AV) {l : List α} {n : Nat} (h : l.length = n) : AV.agg (((l.map f).drop 0).take n) = AV.agg (l.map f) := by
  rw [List.drop_zero, List.take_of_length_le (by rw [aDG, h]; exact Nat.le_refl _)]
theorem arr_room {cs : List AV} {n : Nat} (h : (Nat.ble (0 + n) cs.length) = true) : 0 + n <= cs.length := Nat.le_of_ble_eq_true h
theorem arr_store {α : Type} (f : α -> AV) {l : List α} {n : Nat} (cs : List AV) (h : l.length = n) (hc : cs.length = n) : splice cs 0 (AV.agg (l.map f)).cells = l.map f := uV (by show (l.map f).length = _; rw [aDG, h, hc])
def bcat (b s : Bytes) : Option Bytes := if b.length + s.length <= 140737488355328 then some (b ++ s) else none
theorem bcat_some {b s r : Bytes} (h : bcat b s = some r) : b.length + s.length <= 140737488355328 /\ r = b ++ s := by
  unfold bcat at h
  split at h
  · rename_i hh; exact ⟨hh, (Option.some.inj h).symm⟩
  · cases h
abbrev ii (n : Int) : AV := .int .i64 n
abbrev ss (s : Bytes) : AV := .str s
abbrev bb (b : Bool) : AV := .bool b
theorem tr3 {α β : Type} {a : α} {b : β} {X : Prop} (h : X) : a = a /\ b = b /\ True /\ X := ⟨rfl, rfl, trivial, h⟩
theorem Br.of {γ : Type} {t : Bool} {a b o : γ} {X Y : Prop} (h : (bif t then a else b) = o) (h1 : t = true -> a = o -> X) (h2 : t = false -> b = o -> Y) : Br t X Y := Br.mk (fun ht => h1 ht (iX h ht)) (fun ht => h2 ht (iY h ht))
theorem and_of {γ : Type} {t : Bool} {a b o : γ} {X Y : Prop} (h : (bif t then a else b) = o) (h1 : t = true -> a = o -> X) (h2 : t = false -> b = o -> Y) : (t = true -> X) /\ (t = false -> Y) := ⟨fun ht => h1 ht (iX h ht), fun ht => h2 ht (iY h ht)⟩
end Go.Pm
