/-
  Generic: what stands between a function's text and its plain image: partial steps as options, loops as least fixed points of them. No program in sight.
-/
import Derived.Test.YtommkfooolabhaaGreatDoorPm19
namespace Go.Pm
open Go Go.RowKit
set_option linter.unusedSimpArgs false
set_option linter.unusedVariables false
theorem bind_some {α β : Type} {o : Option α} {f : α → Option β} {r : β} (h : o.bind f = some r) : ∃ x, o = some x ∧ f x = some r := by
  cases o with
  | none => cases h
  | some x => exact ⟨x, rfl, h⟩
theorem bind_elim {α β : Type} {o : Option α} {f : α → Option β} {r : β} {P : Prop} (h : o.bind f = some r) (k : ∀ x, o = some x → f x = some r → P) : P :=
  let ⟨x, h1, h2⟩ := bind_some h
  k x h1 h2
theorem cond_tt {α : Type} {t : Bool} {a b o : α} (h : (bif t then a else b) = o) (ht : t = true) : a = o := by subst ht; exact h
theorem cond_ff {α : Type} {t : Bool} {a b o : α} (h : (bif t then a else b) = o) (ht : t = false) : b = o := by subst ht; exact h
def chk {α : Type} (p : Prop) [Decidable p] (o : Option α) : Option α := if p then o else none
theorem chk_some {α : Type} {p : Prop} [Decidable p] {o : Option α} {r : α} (h : chk p o = some r) : p ∧ o = some r := by
  unfold chk at h
  split at h
  · exact ⟨by assumption, h⟩
  · cases h
theorem chk_elim {α : Type} {p : Prop} [Decidable p] {o : Option α} {r : α} {P : Prop} (h : chk p o = some r) (k : p → o = some r → P) : P := k (chk_some h).1 (chk_some h).2
def idx {α : Type} (l : List α) (n : Int) : Option α := bif decide (0 ≤ n) then l[n.toNat]? else none
theorem idx_some {α : Type} {l : List α} {n : Int} {x : α} (h : idx l n = some x) : 0 ≤ n ∧ l[n.toNat]? = some x := by
  unfold idx at h
  cases hn : decide (0 ≤ n) with
  | false => rw [hn] at h; cases h
  | true => rw [hn] at h; exact ⟨of_decide_eq_true hn, h⟩
theorem idx_map {α β : Type} {l : List α} {n : Int} {x : α} (f : α → β) (h : idx l n = some x) : 0 ≤ n ∧ (l.map f)[n.toNat]? = some (f x) := by
  obtain ⟨h1, h2⟩ := idx_some h
  exact ⟨h1, by simp [h2]⟩
def gidx {α : Type} [Inhabited α] (g : Bool) (l : List α) (n : Int) : Option α := bif g then idx l n else some default
theorem gidx_some {α : Type} [Inhabited α] {g : Bool} {l : List α} {n : Int} {x : α} (h : gidx g l n = some x) (hg : g = true) : 0 ≤ n ∧ l[n.toNat]? = some x := by
  subst hg; exact idx_some h
theorem gidx_map {α β : Type} [Inhabited α] {g : Bool} {l : List α} {n : Int} {x : α} (f : α → β) (h : gidx g l n = some x) (hg : g = true) : 0 ≤ n ∧ (l.map f)[n.toNat]? = some (f x) := by
  subst hg; exact idx_map f h
def gcall {α : Type} [Inhabited α] (g : Bool) (o : Option α) : Option α := bif g then o else some default
theorem gcall_some {α : Type} [Inhabited α] {g : Bool} {o : Option α} {x : α} (h : gcall g o = some x) (hg : g = true) : o = some x := by subst hg; exact h
def slc {α : Type} (l : List α) (a b : Int) : Option (List α) := chk (0 ≤ a ∧ a ≤ b ∧ b ≤ (l.length : Int)) (some ((l.drop a.toNat).take (b.toNat - a.toNat)))
theorem slc_some {α : Type} {l : List α} {a b : Int} {x : List α} (h : slc l a b = some x) : (0 ≤ a ∧ a ≤ b ∧ b ≤ (l.length : Int)) ∧ x = (l.drop a.toNat).take (b.toNat - a.toNat) := by
  obtain ⟨h1, h2⟩ := chk_some h
  exact ⟨h1, (Option.some.inj h2).symm⟩
def gslc {α : Type} (g : Bool) (l : List α) (a b : Int) : Option (List α) := chk (g = true → 0 ≤ a ∧ a ≤ b ∧ b ≤ (l.length : Int)) (some ((l.drop a.toNat).take (b.toNat - a.toNat)))
theorem gslc_some {α : Type} {g : Bool} {l : List α} {a b : Int} {x : List α} (h : gslc g l a b = some x) : (g = true → 0 ≤ a ∧ a ≤ b ∧ b ≤ (l.length : Int)) ∧ x = (l.drop a.toNat).take (b.toNat - a.toNat) := by
  obtain ⟨h1, h2⟩ := chk_some h
  exact ⟨h1, (Option.some.inj h2).symm⟩
theorem slc_map {α β : Type} (f : α → β) (l : List α) (a b : Nat) : ((l.map f).drop a).take b = ((l.drop a).take b).map f := by rw [List.map_take, List.map_drop]
theorem slc_cond {α β : Type} (f : α → β) {l : List α} {a b : Int} (h : 0 ≤ a ∧ a ≤ b ∧ b ≤ (l.length : Int)) : 0 ≤ a ∧ a ≤ b ∧ b ≤ ((l.map f).length : Int) := by rw [List.length_map]; exact h
def cat (s t : Bytes) : Option Bytes := chk (s.length + t.length ≤ maxLen) (some (s ++ t))
theorem cat_some {s t x : Bytes} (h : cat s t = some x) : s.length + t.length ≤ maxLen ∧ x = s ++ t := by
  obtain ⟨h1, h2⟩ := chk_some h
  exact ⟨h1, (Option.some.inj h2).symm⟩
def gcat (g : Bool) (s t : Bytes) : Option Bytes := chk (g = true → s.length + t.length ≤ maxLen) (some (s ++ t))
theorem gcat_some {g : Bool} {s t x : Bytes} (h : gcat g s t = some x) : (g = true → s.length + t.length ≤ maxLen) ∧ x = s ++ t := by
  obtain ⟨h1, h2⟩ := chk_some h
  exact ⟨h1, (Option.some.inj h2).symm⟩
def app {α : Type} (e : Nat) (s t : List α) : Option (List α) := chk (s.length + t.length ≤ maxLen ∧ (s.length + t.length) * e ≤ 140737488355328) (some (s ++ t))
theorem app_some {α : Type} {e : Nat} {s t x : List α} (h : app e s t = some x) : (s.length + t.length ≤ maxLen ∧ (s.length + t.length) * e ≤ 140737488355328) ∧ x = s ++ t := by
  obtain ⟨h1, h2⟩ := chk_some h
  exact ⟨h1, (Option.some.inj h2).symm⟩
theorem app_cond {α β : Type} (f : α → β) {e : Nat} {s t : List α} (h : s.length + t.length ≤ maxLen ∧ (s.length + t.length) * e ≤ 140737488355328) :
    (s.map f).length + (t.map f).length ≤ maxLen ∧ ((s.map f).length + (t.map f).length) * e ≤ 140737488355328 := by rw [List.length_map, List.length_map]; exact h
theorem app_list {α : Type} (sz : Nat) (f : α → AV) (s t : List α) : AV.list sz (s.map f ++ t.map f) = AV.list sz ((s ++ t).map f) := by rw [List.map_append]
theorem slc_list {α : Type} (sz : Nat) (f : α → AV) (l : List α) (a b : Nat) : AV.list sz (((l.map f).drop a).take b) = AV.list sz (((l.drop a).take b).map f) := by rw [slc_map]
theorem len_list {α : Type} (f : α → AV) (l : List α) : AV.int .i64 ((l.map f).length : Int) = AV.int .i64 (l.length : Int) := by rw [List.length_map]
def seti {α : Type} (l : List α) (n : Int) (x : α) : Option (List α) := chk (0 ≤ n ∧ n < (l.length : Int)) (some (l.set n.toNat x))
theorem seti_some {α : Type} {l x' : List α} {n : Int} {x : α} (h : seti l n x = some x') : (0 ≤ n ∧ n < (l.length : Int)) ∧ x' = l.set n.toNat x := by
  obtain ⟨h1, h2⟩ := chk_some h
  exact ⟨h1, (Option.some.inj h2).symm⟩
theorem seti_len {α β : Type} (f : α → β) {l : List α} {n : Int} (h : 0 ≤ n ∧ n < (l.length : Int)) (off : Nat) (ho : off = 0) : off + n.toNat * 1 + 1 ≤ (l.map f).length := by
  rw [List.length_map]; omega
theorem seti_map {α : Type} (f : α → AV) {l : List α} {n : Int} (x : α) (h : 0 ≤ n ∧ n < (l.length : Int)) : splice (l.map f) (0 + n.toNat * 1) [f x] = (l.set n.toNat x).map f := by
  rw [Nat.zero_add, Nat.mul_one, splice_one (by rw [List.length_map]; omega), List.map_set]
def u8 (n : Int) : UInt8 := UInt8.ofNat n.toNat
theorem u8_of_wf {n : Int} (h : Wf (.int .u8 n)) : ((u8 n).toNat : Int) = n := by
  cases h with
  | int _ _ h =>
  have h0 : 0 ≤ n ∧ n < 256 := by
    rw [← h]
    simp only [IntKind.wrap, IntKind.bits, IntKind.signed]
    have h1 := Int.emod_nonneg n (show (2 ^ 8 : Int) ≠ 0 by decide)
    have h2 := Int.emod_lt_of_pos n (show (0 : Int) < 2 ^ 8 by decide)
    simp at h1 h2 ⊢
    omega
  unfold u8
  rw [UInt8.toNat_ofNat_of_lt' (by simp [UInt8.size]; omega)]
  omega
theorem byteAV_u8 {n : Int} (h : Wf (.int .u8 n)) : AV.int .u8 n = byteAV (u8 n) := by
  unfold byteAV; rw [u8_of_wf h]
theorem bytes1 {n : Int} (h : Wf (.list 1 [.int .u8 n])) : AV.list 1 [.int .u8 n] = AV.list 1 ([u8 n].map byteAV) := by
  cases h with
  | list _ _ _ h' _ => rw [List.map_cons, List.map_nil, ← byteAV_u8 (h' 0 _ 0 _ rfl rfl)]
theorem bytes2 {n m : Int} (h : Wf (.list 1 [.int .u8 n, .int .u8 m])) : AV.list 1 [.int .u8 n, .int .u8 m] = AV.list 1 ([u8 n, u8 m].map byteAV) := by
  cases h with
  | list _ _ _ h' _ => rw [List.map_cons, List.map_cons, List.map_nil, ← byteAV_u8 (h' 0 _ 0 _ rfl rfl), ← byteAV_u8 (h' 1 _ 0 _ rfl rfl)]
def imin (m n : Int) : Int := if n < m then n else m
def imax (m n : Int) : Int := if n > m then n else m
/-! ### Loops -/

def loopN {σ ρ : Type} (body : σ → Option (σ ⊕ ρ)) : Nat → σ → Option ρ
  | 0, _ => none
  | n + 1, x => match body x with
    | none => none
    | some (.inl y) => loopN body n y
    | some (.inr r) => some r
theorem loopN_up {σ ρ : Type} {body : σ → Option (σ ⊕ ρ)} : ∀ {n m : Nat} {x : σ} {r : ρ}, loopN body n x = some r → n ≤ m → loopN body m x = some r
  | 0, _, _, _, h, _ => by cases h
  | n + 1, 0, _, _, _, hm => by omega
  | n + 1, m + 1, x, r, h, hm => by
    unfold loopN at h ⊢
    cases hb : body x with
    | none => rw [hb] at h; cases h
    | some y =>
      rw [hb] at h
      cases y with
      | inl y => exact loopN_up (n := n) h (by omega)
      | inr r' => exact h
noncomputable def loopC {σ ρ : Type} (body : σ → Option (σ ⊕ ρ)) (x : σ) : Option ρ := open Classical in if h : ∃ n r, loopN body n x = some r then loopN body (Classical.choose h) x else none
theorem loopC_some {σ ρ : Type} {body : σ → Option (σ ⊕ ρ)} {x : σ} {r : ρ} : loopC body x = some r ↔ ∃ n, loopN body n x = some r := by
  unfold loopC
  constructor
  · intro h
    split at h
    · exact ⟨_, h⟩
    · cases h
  · rintro ⟨n, h⟩
    have hex : ∃ n r, loopN body n x = some r := ⟨n, r, h⟩
    rw [dif_pos hex]
    obtain ⟨r', h'⟩ := Classical.choose_spec hex
    have h1 := loopN_up h (Nat.le_max_left n (Classical.choose hex))
    have h2 := loopN_up h' (Nat.le_max_right n (Classical.choose hex))
    rw [h1] at h2
    rw [h', h2]
noncomputable def loopO {σ ρ : Type} (body : σ → Option (σ ⊕ ρ)) (x : σ) : Option ρ := match loopN body 4096 x with
  | some r => some r
  | none => loopC body x
theorem loopO_some {σ ρ : Type} {body : σ → Option (σ ⊕ ρ)} {x : σ} {r : ρ} : loopO body x = some r ↔ ∃ n, loopN body n x = some r := by
  unfold loopO
  generalize 4096 = m
  split
  · rename_i r' h
    constructor
    · intro e; injection e with e; subst e; exact ⟨m, h⟩
    · rintro ⟨n, hn⟩
      have h1 := loopN_up hn (Nat.le_max_left n m)
      have h2 := loopN_up h (Nat.le_max_right n m)
      rw [h1] at h2
      exact h2.symm
  · exact loopC_some
theorem loopO_eq {σ ρ : Type} (body : σ → Option (σ ⊕ ρ)) (x : σ) : loopO body x = match body x with
    | none => none
    | some (.inl y) => loopO body y
    | some (.inr r) => some r := by
  refine Option.ext fun r => ?_
  rw [loopO_some]
  cases hb : body x with
  | none =>
    refine ⟨?_, fun h => by cases h⟩
    rintro ⟨n, hn⟩
    cases n with
    | zero => cases hn
    | succ n => unfold loopN at hn; rw [hb] at hn; cases hn
  | some y =>
    cases y with
    | inl y =>
      rw [loopO_some]
      constructor
      · rintro ⟨n, hn⟩
        cases n with
        | zero => cases hn
        | succ n => unfold loopN at hn; rw [hb] at hn; exact ⟨n, hn⟩
      · rintro ⟨n, hn⟩
        exact ⟨n + 1, by unfold loopN; rw [hb]; exact hn⟩
    | inr r' =>
      constructor
      · rintro ⟨n, hn⟩
        cases n with
        | zero => cases hn
        | succ n => unfold loopN at hn; rw [hb] at hn; exact hn
      · intro h
        exact ⟨1, by unfold loopN; rw [hb]; exact h⟩
theorem LoopE.img {E : Env} {nb nk : Nat} {bodyE : (Exit → St → Prop) → St → Prop} {K : Exit → St → Prop} {st : St} {σ ρ : Type} (S : σ → St) (body : σ → Option (σ ⊕ ρ)) (x0 : σ) {r : ρ} (h : loopO body x0 = some r) (h0 : Gho E nb nk st (S x0))
    (h1 : ∀ n x y, body x = some y → (∀ x', y = .inl x' → loopN body n x' = some r) → (∀ r', y = .inr r' → r' = r) →
      bodyE (fun e s => match e with | .normal => ∃ p : {p : Nat × σ // loopN body p.1 p.2 = some r}, p.1.1 < n + 1 ∧ Gho E nb nk s (S p.1.2) | e => K e s) (S x)) : LoopE E nb nk bodyE K st := by
  obtain ⟨n0, hn0⟩ := loopO_some.1 h
  refine ⟨{p : Nat × σ // loopN body p.1 p.2 = some r}, fun p => S p.1.2, fun p => p.1.1, ⟨(n0, x0), hn0⟩, h0, ?_⟩
  rintro ⟨⟨n, x⟩, hx⟩
  cases n with
  | zero => cases hx
  | succ n =>
    dsimp only at hx
    unfold loopN at hx
    cases hb : body x with
    | none => rw [hb] at hx; cases hx
    | some y =>
      rw [hb] at hx
      exact h1 n x y hb (fun x' hx' => by subst hx'; exact hx) fun r' hr' => by subst hr'; exact Option.some.inj hx
theorem noB_map {α : Type} {n : Nat} (f : α → AV) (h : ∀ x, (f x).noB n = true) (l : List α) : (l.map f).all (AV.noB n) = true := by
  simp only [List.all_eq_true, List.mem_map]
  rintro _ ⟨x, _, rfl⟩
  exact h x
theorem and_tt' {a b : Bool} (h : a = true) (h' : b = true) : (a && b) = true := by rw [h, h']; rfl
theorem puD_app {a b : List AV} (h : a.all AV.puD = true) (h' : b.all AV.puD = true) : (a ++ b).all AV.puD = true := by rw [List.all_append, h, h']; rfl
theorem noB_fn {f : FuncId} {c : List AV} (h : c.all AV.puB = true) (n : Nat) : (AV.fn f [] c).noB n = true := by
  simp only [AV.noB, List.all_nil, Bool.true_and]
  simp only [List.all_eq_true] at h ⊢
  intro x hx
  have := h x hx
  cases x <;> first | exact this | (simp [AV.puB] at this)
theorem puD_of {c : List AV} (h : c.all AV.puB = true) : c.all AV.puD = true := by
  simp only [List.all_eq_true] at h ⊢
  intro x hx
  have := h x hx
  unfold AV.puD
  split
  · simp [AV.puB] at this
  · rename_i a b
    match a, b, this with
    | [], [], _ => rfl
  · exact this
theorem drop_get {α : Type} (f : α → AV) {l : List α} {n : Int} {x : α} (h : idx l n = some x) : ((l.map f).drop (n.toNat * 1))[0]? = some (f x) := by
  obtain ⟨h1, h2⟩ := idx_some h
  rw [List.getElem?_drop, Nat.add_zero, Nat.mul_one, List.getElem?_map, h2]; rfl
theorem off_get {α : Type} (f : α → AV) {l : List α} {n : Int} {x : α} (h : idx l n = some x) : (l.map f)[0 + n.toNat * 1]? = some (f x) := by
  obtain ⟨h1, h2⟩ := idx_some h
  rw [Nat.zero_add, Nat.mul_one, List.getElem?_map, h2]; rfl
theorem seti_map' {α : Type} (f : α → AV) {l l' : List α} {n : Int} (x : α) (h : 0 ≤ n ∧ n < (l.length : Int)) (he : l' = l.set n.toNat x) : splice (l.map f) (0 + n.toNat * 1) [f x] = l'.map f := by
  rw [he]; exact seti_map f x h
theorem seti_u8 {l l' : List UInt8} {n m : Int} (hw : Wf (.int .u8 m)) (h : 0 ≤ n ∧ n < (l.length : Int)) (he : l' = l.set n.toNat (u8 m)) : splice (l.map byteAV) (0 + n.toNat * 1) [.int .u8 m] = l'.map byteAV := by
  rw [he, byteAV_u8 hw]; exact seti_map byteAV (u8 m) h
theorem row_text {l : List UInt8} {n : Nat} (h : n ≤ l.length) : 0 + n ≤ (l.map byteAV).length ∧ ((l.map byteAV).drop 0).take n = (l.take n).map byteAV := by
  rw [List.length_map, List.drop_zero, List.map_take]; exact ⟨by omega, rfl⟩
theorem slc_cond' {α β : Type} (f : α → β) {l : List α} {a : Int} (h : 0 ≤ a ∧ a ≤ (l.length : Int) ∧ (l.length : Int) ≤ (l.length : Int)) : 0 ≤ a ∧ a ≤ ((l.map f).length : Int) ∧ ((l.map f).length : Int) ≤ ((l.map f).length : Int) := by rw [List.length_map]; exact h
theorem slc_list' {α : Type} (sz : Nat) (f : α → AV) (l : List α) (a : Nat) : AV.list sz (((l.map f).drop a).take (((l.map f).length : Int).toNat - a)) = AV.list sz (((l.drop a).take ((l.length : Int).toNat - a)).map f) := by rw [List.length_map, slc_map]
/-! ### What a call hands back -/
theorem Frz.ptr0 {H : List AObj} {id : Nat} {t : TypeId} {cs : List AV} {tg : List (Nat × Nat)} (h : H[id]? = some (.cells t cs tg)) (hp : cs.all AV.puB = true) (hn : 0 < cs.length) : Frz H (.ptr id 0) (.iptr cs) :=
  .ptr id 0 t cs tg cs h rfl hn fun j c c' h1 h2 => by
    rw [Nat.zero_add, h2] at h1
    injection h1 with h1
    subst h1
    exact .pure _ (AV.puB_ok (List.all_eq_true.1 hp _ (List.mem_of_getElem? h2)))
theorem Frz.ptrD {H : List AObj} {id : Nat} {t : TypeId} {cs : List AV} {tg : List (Nat × Nat)} (h : H[id]? = some (.cells t cs tg)) (hp : cs.all AV.puD = true) (hn : 0 < cs.length) : Frz H (.ptr id 0) (.iptr cs) :=
  .ptr id 0 t cs tg cs h rfl hn fun j c c' h1 h2 => by
    rw [Nat.zero_add, h2] at h1
    injection h1 with h1
    subst h1
    exact .pure _ (AV.puD_ok (List.all_eq_true.1 hp _ (List.mem_of_getElem? h2)))
def FrzAll (H : List AObj) : List AV → List AV → Prop
  | [], [] => True
  | a :: l, b :: l' => Frz H a b ∧ FrzAll H l l'
  | _, _ => False
theorem FrzAll.at_ {H : List AObj} : ∀ {a a' : List AV}, FrzAll H a a' → a'.length = a.length ∧ ∀ (j : Nat) (c c' : AV), a[j]? = some c → a'[j]? = some c' → Frz H c c'
  | [], [], _ => ⟨rfl, by simp⟩
  | a :: l, b :: l', h => by
    obtain ⟨h1, h2⟩ := FrzAll.at_ h.2
    refine ⟨by simp [h1], fun j c c' hc hc' => ?_⟩
    cases j with
    | zero => injection hc with hc; injection hc' with hc'; subst hc hc'; exact h.1
    | succ j => exact h2 j c c' hc hc'
  | [], _ :: _, h => h.elim
  | _ :: _, [], h => h.elim
theorem Frz.aggL {H : List AObj} {a a' : List AV} (h : FrzAll H a a') : Frz H (.agg a) (.agg a') := .agg a a' h.at_.1 h.at_.2
theorem Frz.tupL {H : List AObj} {a a' : List AV} (h : FrzAll H a a') : Frz H (.tup a) (.tup a') := .tup a a' h.at_.1 h.at_.2
theorem puB_map {α : Type} (f : α → AV) (h : ∀ x, (f x).puB = true) (l : List α) : (l.map f).all AV.puB = true := by
  simp only [List.all_eq_true, List.mem_map]
  rintro _ ⟨x, _, rfl⟩
  exact h x
theorem Frz.fn1 {H : List AObj} {f : FuncId} {b b' : AV} (h : Frz H b b') : Frz H (.fn f [] [b]) (.fn f [] [b']) :=
  .fn f [] [b] [] [b'] rfl rfl (by simp) fun j c c' h1 h2 => by
    cases j with
    | zero => injection h1 with h1; injection h2 with h2; subst h1 h2; exact h
    | succ j => simp at h1
/-! ### Rows of structs -/
theorem flat_len' {α : Type} (c : α → List AV) (sz : Nat) (h : ∀ x, (c x).length = sz) : ∀ (l : List α), (l.flatMap c).length = l.length * sz
  | [] => by simp
  | x :: l => by rw [List.flatMap_cons, List.length_append, h x, flat_len' c sz h l, List.length_cons, Nat.add_mul]; omega
theorem flat_from {α : Type} (f : α → AV) (l : List α) : (l.map f).flatMap AV.cells = l.flatMap fun x => (f x).cells := by rw [List.flatMap_map]
theorem flat_parts {α : Type} (c : α → List AV) (sz : Nat) (h : ∀ x, (c x).length = sz) : ∀ (l : List α) (n : Nat) (x : α), l[n]? = some x → l.flatMap c = (l.take n).flatMap c ++ (c x ++ (l.drop (n + 1)).flatMap c) ∧ ((l.take n).flatMap c).length = n * sz
  | [], n, x, hx => by simp at hx
  | y :: l, 0, x, hx => by
    simp only [List.getElem?_cons_zero, Option.some.injEq] at hx
    subst hx
    simp
  | y :: l, n + 1, x, hx => by
    obtain ⟨h1, h2⟩ := flat_parts c sz h l n x (by simpa using hx)
    refine ⟨?_, ?_⟩
    · rw [List.flatMap_cons, h1, List.take_succ_cons, List.flatMap_cons, List.drop_succ_cons, List.append_assoc]
    · rw [List.take_succ_cons, List.flatMap_cons, List.length_append, h y, h2, Nat.add_mul]; omega
theorem flat_load {α : Type} (c : α → List AV) (sz : Nat) (h : ∀ x, (c x).length = sz) {l : List α} {n : Int} {x : α} (hx : idx l n = some x) : ((l.flatMap c).drop (0 + n.toNat * sz)).take sz = c x := by
  obtain ⟨h1, h2⟩ := flat_parts c sz h l n.toNat x (idx_some hx).2
  rw [h1, Nat.zero_add, List.drop_append_of_le_length (by omega), List.drop_of_length_le (by omega), List.nil_append, List.take_append_of_le_length (by rw [h]; exact Nat.le_refl _), List.take_of_length_le (by rw [h]; exact Nat.le_refl _)]
theorem flat_fits {α : Type} (c : α → List AV) (sz : Nat) (h : ∀ x, (c x).length = sz) {l : List α} {n : Int} {x : α} (hx : idx l n = some x) : 0 + n.toNat * sz + sz ≤ (l.flatMap c).length := by
  obtain ⟨h1, h2⟩ := flat_parts c sz h l n.toNat x (idx_some hx).2
  rw [h1]
  simp only [List.length_append, h2, h]
  omega
theorem flat_len_le {α : Type} (c : α → List AV) (sz : Nat) (h : ∀ x, (c x).length = sz) {l : List α} {n : Int} (hn : 0 ≤ n ∧ n < (l.length : Int)) : 0 + n.toNat * sz + sz ≤ (l.flatMap c).length := by
  rw [flat_len' c sz h, Nat.zero_add]
  have : (n.toNat + 1) * sz ≤ l.length * sz := Nat.mul_le_mul_right _ (by omega)
  rw [Nat.add_mul] at this; omega
theorem flat_store {α : Type} (c : α → List AV) (sz : Nat) (h : ∀ x, (c x).length = sz) {l l' : List α} {n : Int} (y : α) (hn : 0 ≤ n ∧ n < (l.length : Int)) (he : l' = l.set n.toNat y) : splice (l.flatMap c) (0 + n.toNat * sz) (c y) = l'.flatMap c := by
  have hlt : n.toNat < l.length := by omega
  obtain ⟨h1, h2⟩ := flat_parts c sz h l n.toNat _ (List.getElem?_eq_getElem hlt)
  obtain ⟨h3, h4⟩ := flat_parts c sz h l' n.toNat y (by rw [he]; simp [hlt])
  rw [h1, h3, Nat.zero_add]
  have e1 : l'.take n.toNat = l.take n.toNat := by rw [he, List.take_set_of_le (Nat.le_refl _)]
  have e2 : l'.drop (n.toNat + 1) = l.drop (n.toNat + 1) := by rw [he, List.drop_set_of_lt (by omega)]
  rw [e1, e2]
  unfold splice
  rw [List.take_append_of_le_length (by omega), List.take_of_length_le (by omega), List.drop_append, List.drop_of_length_le (by rw [h2, h]; omega), List.nil_append, h2, h,
    show n.toNat * sz + sz - n.toNat * sz = sz by omega, List.drop_append, List.drop_of_length_le (by rw [h]; exact Nat.le_refl _), List.nil_append, h, Nat.sub_self, List.drop_zero]
theorem flat_lenF {α : Type} (c : α → List AV) (sz : Nat) (h : ∀ x, (c x).length = sz) {l : List α} {n : Int} {e : α} (he : idx l n = some e) {o m : Nat} (ho : o + m ≤ sz) : 0 + n.toNat * sz + o + m ≤ (l.flatMap c).length := by
  have := flat_fits c sz h he
  omega
theorem flat_storeF {α : Type} (c : α → List AV) (sz : Nat) (h : ∀ x, (c x).length = sz) {l : List α} {n : Int} {e e' : α} (he : idx l n = some e) {o : Nat} {xs : List AV} (ho : o + xs.length ≤ sz) (hc : splice (c e) o xs = c e') :
    splice (l.flatMap c) (0 + n.toNat * sz + o) xs = (l.set n.toNat e').flatMap c := by
  rw [Nat.zero_add, Nat.add_comm]
  have hg := (idx_some he).2
  have hlt : n.toNat < l.length := (List.getElem?_eq_some_iff.1 hg).1
  obtain ⟨h1, h2⟩ := flat_parts c sz h l n.toNat _ hg
  obtain ⟨h3, _⟩ := flat_parts c sz h (l.set n.toNat e') n.toNat e' (by simp [hlt])
  have e1 : (l.set n.toNat e').take n.toNat = l.take n.toNat := by rw [List.take_set_of_le (Nat.le_refl _)]
  have e2 : (l.set n.toNat e').drop (n.toNat + 1) = l.drop (n.toNat + 1) := by rw [List.drop_set_of_lt (by omega)]
  rw [h1, h3, e1, e2, ← hc]
  have hl := h e
  generalize (l.take n.toNat).flatMap c = A at h2
  generalize (l.drop (n.toNat + 1)).flatMap c = B
  generalize c e = M at hl
  unfold splice
  rw [← h2, List.take_append, List.drop_append, List.take_of_length_le (by omega), List.drop_of_length_le (by omega), List.nil_append, show o + A.length - A.length = o by omega, show o + A.length + xs.length - A.length = o + xs.length by omega,
    List.take_append, List.drop_append, show o - M.length = 0 by omega, show o + xs.length - M.length = 0 by omega]
  simp
theorem flat_length {α : Type} (c : α → List AV) (sz : Nat) (h : ∀ x, (c x).length = sz) (l : List α) : (l.flatMap c).length = l.length * sz := flat_len' c sz h l
theorem flat_getF {α : Type} (c : α → List AV) (sz : Nat) (h : ∀ x, (c x).length = sz) {l : List α} {n : Int} {e : α} (he : idx l n = some e) {o : Nat} {a : AV} (ho : o + 1 ≤ sz) (ha : (c e)[o]? = some a) : (l.flatMap c)[0 + n.toNat * sz + o]? = some a := by
  obtain ⟨h1, h2⟩ := flat_parts c sz h l n.toNat e (idx_some he).2
  rw [h1, Nat.zero_add, List.getElem?_append_right (by omega), h2, show n.toNat * sz + o - n.toNat * sz = o by omega, List.getElem?_append_left (by rw [h]; omega)]
  exact ha
theorem flat_loadF {α : Type} (c : α → List AV) (sz : Nat) (h : ∀ x, (c x).length = sz) {l : List α} {n : Int} {e : α} (he : idx l n = some e) {o n' : Nat} {xs : List AV} (ho : o + n' ≤ sz) (hc : ((c e).drop o).take n' = xs) : ((l.flatMap c).drop (0 + n.toNat * sz + o)).take n' = xs := by
  obtain ⟨h1, h2⟩ := flat_parts c sz h l n.toNat e (idx_some he).2
  rw [h1, Nat.zero_add, List.drop_append, List.drop_of_length_le (by omega), List.nil_append, h2, show n.toNat * sz + o - n.toNat * sz = o by omega, List.drop_append, List.take_append, List.length_drop, h, show n' - (sz - o) = 0 by omega, List.take_zero, List.append_nil]
  exact hc
theorem flat_fitsF {α : Type} (c : α → List AV) (sz : Nat) (h : ∀ x, (c x).length = sz) {l : List α} {n : Int} {e : α} (he : idx l n = some e) {o n' : Nat} (ho : o + n' ≤ sz) : 0 + n.toNat * sz + o + n' ≤ (l.flatMap c).length := flat_lenF c sz h he ho
theorem row_slc {α : Type} {l x : List α} {hi : Int} {id e : Nat} (hx : slc l 0 hi = some x) : AV.row id (0 + (0 : Int).toNat * e) (hi.toNat - (0 : Int).toNat) (bif Nat.beq e e then e else 0) = AV.row id 0 x.length e := by
  obtain ⟨h1, h2⟩ := slc_some hx
  have e1 : Nat.beq e e = true := Nat.beq_refl e
  have e2 : x.length = hi.toNat := by rw [h2]; simp; omega
  rw [e1, e2]; simp
theorem slc_rest {α β : Type} (c : α → List β) {l x : List α} {hi : Int} (hx : slc l 0 hi = some x) : l.flatMap c = x.flatMap c ++ (l.drop hi.toNat).flatMap c := by
  obtain ⟨_, h2⟩ := slc_some hx
  rw [h2, ← List.flatMap_append]
  simp
theorem grow_length {α : Type} (c : α → List AV) (sz : Nat) (h : ∀ x, (c x).length = sz) {l : List α} {n : Nat} (hn : n = l.length) : (l.flatMap c).length = n * sz := by rw [hn, flat_len' c sz h]
theorem grow_cond {α β : Type} {f : α → β} {e n : Nat} {s t : List α} (hn : n = s.length) (h : s.length + t.length ≤ maxLen ∧ (s.length + t.length) * e ≤ 140737488355328) : n + (t.map f).length ≤ maxLen ∧ (n + (t.map f).length) * e ≤ 140737488355328 := by rw [List.length_map, hn]; exact h
theorem grow_cells {α : Type} {f : α → AV} {s t x : List α} (h : x = s ++ t) : (s.flatMap fun y => (f y).cells) ++ (t.map f).flatMap AV.cells = x.flatMap fun y => (f y).cells := by rw [h, List.flatMap_append, flat_from]
theorem grow_len {α : Type} (id sz : Nat) {f : α → AV} {s t x : List α} {n : Nat} (hn : n = s.length) (h : x = s ++ t) : AV.row id 0 (n + (t.map f).length) sz = AV.row id 0 x.length sz := by rw [h, List.length_append, List.length_map, hn]
def del {α : Type} (l : List α) (i j : Int) : Option (List α) := chk ((0 ≤ i ∧ i < (l.length : Int)) ∧ j = i + 1) (some (l.eraseIdx i.toNat))
theorem del_some {α : Type} {l r : List α} {i j : Int} (h : del l i j = some r) : ((0 ≤ i ∧ i < (l.length : Int)) ∧ j = i + 1) ∧ r = l.eraseIdx i.toNat := by
  obtain ⟨h1, h2⟩ := chk_some h
  exact ⟨h1, (Option.some.inj h2).symm⟩
def chk2 (p : Prop) [Decidable p] : Option Unit := chk p (some ())
theorem chk2_some {p : Prop} [Decidable p] {r : Unit} (h : chk2 p = some r) : p := (chk_some h).1
theorem allP_flat {α : Type} (c : α → List AV) (l : List α) (h : ∀ x, (c x).all AV.puB = true) : (l.flatMap c).all AV.puB = true := by
  induction l with
  | nil => rfl
  | cons x l ih => rw [List.flatMap_cons, List.all_append, h x, ih]; rfl
theorem flat_erase {α : Type} (c : α → List AV) (sz : Nat) (h : ∀ x, (c x).length = sz) (l : List α) (i : Nat) (hi : i < l.length) :
    (splice (l.flatMap c) (i * sz) (((l.flatMap c).drop ((i + 1) * sz)).take ((l.length - (i + 1)) * sz))).take ((i + (l.length - (i + 1))) * sz) = (l.eraseIdx i).flatMap c := by
  obtain ⟨h1, h2⟩ := flat_parts c sz h l i _ (List.getElem?_eq_getElem hi)
  have h3 : ((l.drop (i + 1)).flatMap c).length = (l.length - (i + 1)) * sz := by rw [flat_len' c sz h, List.length_drop]
  have h4 : (l.eraseIdx i).flatMap c = (l.take i).flatMap c ++ (l.drop (i + 1)).flatMap c := by rw [List.eraseIdx_eq_take_drop_succ, List.flatMap_append]
  have h5 := h l[i]
  rw [h4, h1]
  generalize (l.take i).flatMap c = A at h2
  generalize (l.drop (i + 1)).flatMap c = B at h3
  generalize c l[i] = M at h5
  have e1 : (A ++ (M ++ B)).drop ((i + 1) * sz) = B := by
    rw [Nat.add_mul, Nat.one_mul, ← h2, List.drop_append, List.drop_of_length_le (by omega), List.nil_append, show A.length + sz - A.length = sz by omega, List.drop_append, List.drop_of_length_le (by omega), List.nil_append, h5, Nat.sub_self, List.drop_zero]
  have e2 : B.take ((l.length - (i + 1)) * sz) = B := List.take_of_length_le (by omega)
  rw [e1, e2, Nat.add_mul, ← h2, ← h3]
  unfold splice
  have e3 : (A ++ (M ++ B)).take A.length = A := by rw [List.take_append_of_le_length (Nat.le_refl _), List.take_length]
  rw [e3, ← List.append_assoc, List.take_append_of_le_length (by simp), List.take_of_length_le (by simp)]
theorem keepN_c {n : Nat} {t : TypeId} {cs : List AV} {tg : List (Nat × Nat)} {H : List AObj} (h : cs.all (AV.noB n) = true) (h2 : keepN n H = true) : keepN n (.cells t cs tg :: H) = true := by unfold keepN; rw [h, h2]; rfl
theorem keepN_d {n : Nat} {H : List AObj} (h : keepN n H = true) : keepN n (.dead :: H) = true := h
theorem keepN_m {n : Nat} {x : SObj} {H : List AObj} (h : keepN n H = true) : keepN n (.mp x :: H) = true := h
theorem noB_flat {α : Type} {n : Nat} (c : α → List AV) (h : ∀ x, (c x).all (AV.noB n) = true) (l : List α) : (l.flatMap c).all (AV.noB n) = true := by
  simp only [List.all_eq_true, List.mem_flatMap]
  rintro a ⟨x, _, ha⟩
  exact List.all_eq_true.1 (h x) a ha
theorem puB_flat {α : Type} (c : α → List AV) (h : ∀ x, (c x).all AV.puB = true) (l : List α) : (l.flatMap c).all AV.puB = true := by
  simp only [List.all_eq_true, List.mem_flatMap]
  rintro a ⟨x, _, ha⟩
  exact List.all_eq_true.1 (h x) a ha
theorem Frz.rows {α : Type} {H : List AObj} {id : Nat} {t : TypeId} {tg : List (Nat × Nat)} (f : α → AV) (sz : Nat) (hs : 0 < sz) (hc : ∀ x, ((f x).cells).length = sz) (hp : ∀ x, ((f x).cells).all AV.puB = true) {l : List α} {n sr : Nat} {cs : List AV}
    (h : H[id]? = some (.cells t cs tg)) (hcs : (l.map f).flatMap AV.cells = cs) (hn : n ≤ l.length) : Frz H (.row id 0 n sr) (.list sz ((l.take n).map f)) := by
  rw [flat_from] at hcs
  subst hcs
  refine .row id 0 n t _ tg sz _ h (by simp; omega) (fun e he => by obtain ⟨x, _, rfl⟩ := List.mem_map.1 he; exact hc x) ?_ hs fun i e j c c' hi hj hcc => ?_
  · rw [flat_len' _ sz hc, Nat.zero_add]; exact Nat.mul_le_mul_right _ hn
  · have hi' : (l.map f)[i]? = some e := by
      rw [List.getElem?_map, List.getElem?_take] at hi
      rw [List.getElem?_map]
      split at hi
      · exact hi
      · cases hi
    have h1 := flat_get (l.map f) (fun e he => by obtain ⟨x, _, rfl⟩ := List.mem_map.1 he; exact hc x) i e j c' hi' hj
    rw [flat_from, ← Nat.zero_add (i * sz + j), hcc] at h1
    injection h1 with h1
    subst h1
    obtain ⟨x, hx, rfl⟩ := List.mem_map.1 (List.mem_of_getElem? hi')
    exact .pure _ (AV.puB_ok (List.all_eq_true.1 (hp x) _ (List.mem_of_getElem? hj)))
theorem Frz.rowsW {α : Type} {H : List AObj} {id : Nat} {t : TypeId} {tg : List (Nat × Nat)} (f : α → AV) (sz : Nat) (hs : 0 < sz) (hc : ∀ x, ((f x).cells).length = sz) (hp : ∀ x, ((f x).cells).all AV.puB = true) {l : List α} {sr n : Nat} {cs : List AV}
    (h : H[id]? = some (.cells t cs tg)) (hcs : (l.map f).flatMap AV.cells = cs) (hn : n = l.length) : Frz H (.row id 0 n sr) (.list sz (l.map f)) := by
  subst hn
  have := Frz.rows (sr := sr) f sz hs hc hp h hcs (Nat.le_refl _)
  rw [List.take_length] at this
  exact this
theorem row_len {α : Type} (id s : Nat) (f : α → AV) (l : List α) : AV.row id 0 (l.map f).length s = AV.row id 0 l.length s := by rw [List.length_map]
theorem FnR.drop {E : Env} {P : Program} {f : FuncId} {args : List AV} {r : AV} {own : Bool} (h : FnR E P f args r own) : FnR E P f args r false := by
  rcases h with ⟨hb, h⟩ | ⟨_, h⟩
  · refine .inl ⟨hb, fun F w vals h1 h2 h3 => (h F w vals h1 h2 h3).mono ?_⟩
    rintro e w' ⟨v, F', h4, h5, h6, h7, h8, _⟩
    exact ⟨v, F', h4, h5, h6, h7, h8, fun h => by cases h⟩
  · exact .inr ⟨rfl, h⟩
theorem puD_fn {f : FuncId} {c : List AV} (h : c.all AV.puB = true) : (AV.fn f [] c).puD = true := by
  show (([] : List AV).all AV.puB && c.all AV.puB) = true
  rw [h]; rfl
theorem arr_len {α : Type} (f : α → AV) {l : List α} {n : Nat} (h : l.length = n) : (AV.agg (l.map f)).cells.length = n := by
  show (l.map f).length = n
  rw [List.length_map, h]
theorem arr_fits {α : Type} (f : α → AV) {l : List α} {n : Nat} (h : l.length = n) : 0 + n ≤ (l.map f).length := by rw [List.length_map, h]; omega
theorem arr_load {α : Type} (f : α → AV) {l : List α} {n : Nat} (h : l.length = n) : AV.agg (((l.map f).drop 0).take n) = AV.agg (l.map f) := by
  rw [List.drop_zero, List.take_of_length_le (by rw [List.length_map, h]; exact Nat.le_refl _)]
theorem arr_room {cs : List AV} {n : Nat} (h : (Nat.ble (0 + n) cs.length) = true) : 0 + n ≤ cs.length := Nat.le_of_ble_eq_true h
theorem arr_store {α : Type} (f : α → AV) {l : List α} {n : Nat} (cs : List AV) (h : l.length = n) (hc : cs.length = n) : splice cs 0 (AV.agg (l.map f)).cells = l.map f := splice_all (by show (l.map f).length = _; rw [List.length_map, h, hc])
def bcat (b s : Bytes) : Option Bytes := if b.length + s.length ≤ 140737488355328 then some (b ++ s) else none
theorem bcat_some {b s r : Bytes} (h : bcat b s = some r) : b.length + s.length ≤ 140737488355328 ∧ r = b ++ s := by
  unfold bcat at h
  split at h
  · rename_i hh; exact ⟨hh, (Option.some.inj h).symm⟩
  · cases h
/-! ### Short words for the walks -/
abbrev ii (n : Int) : AV := .int .i64 n
abbrev ss (s : Bytes) : AV := .str s
abbrev bb (b : Bool) : AV := .bool b
theorem tr3 {α β : Type} {a : α} {b : β} {X : Prop} (h : X) : a = a ∧ b = b ∧ True ∧ X := ⟨rfl, rfl, trivial, h⟩
theorem Br.of {γ : Type} {t : Bool} {a b o : γ} {X Y : Prop} (h : (bif t then a else b) = o) (h1 : t = true → a = o → X) (h2 : t = false → b = o → Y) : Br t X Y := Br.mk (fun ht => h1 ht (cond_tt h ht)) (fun ht => h2 ht (cond_ff h ht))
theorem and_of {γ : Type} {t : Bool} {a b o : γ} {X Y : Prop} (h : (bif t then a else b) = o) (h1 : t = true → a = o → X) (h2 : t = false → b = o → Y) : (t = true → X) ∧ (t = false → Y) := ⟨fun ht => h1 ht (cond_tt h ht), fun ht => h2 ht (cond_ff h ht)⟩
end Go.Pm
