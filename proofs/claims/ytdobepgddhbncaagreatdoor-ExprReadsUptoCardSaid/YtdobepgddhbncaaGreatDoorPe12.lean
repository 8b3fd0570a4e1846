/-
  Plain laws, Expr 12: the next word; simple parts and signs.
-/
import Derived.Test.YtdobepgddhbncaaGreatDoorIv1
import Derived.KernelRfl
import Derived.Lib.SplitLaws
import Derived.Lib.IndexMore
open _root_.Option renaming bind_some -> aNR
open _root_.List renaming getElem?_eq_getElem -> aNS
open _root_.List renaming length_cons -> aNT
open _root_.List renaming length_drop -> aNU
open _root_.Bool renaming not_true -> aNV
open _root_.Int renaming toNat_natCast -> aNW
open _root_.List renaming drop_eq_getElem_cons -> aNX
open _root_.Bool renaming not_false -> aNY
open _root_.List renaming drop_succ_cons -> aNZ
open _root_.List renaming drop_zero -> aN0
open _root_.Bool renaming eq_iff_iff -> aN1
open _root_.List renaming drop_drop -> aN2
open _root_.Nat renaming le_refl -> aN3
open _root_.Nat renaming zero_le -> aN4
open _root_.Nat renaming add_sub_cancel_left -> aN5
open _root_.Bool renaming and_eq_true -> aN6
open _root_.List renaming drop_take -> aN7
open _root_.List renaming drop_eq_nil_of_le -> aN8
open _root_.List renaming dropWhile_cons -> aN9
open _root_.List renaming length_append -> aOa
open _root_.List renaming cons_append -> aOb
open _root_.List renaming nil_append -> aOc
open _root_.Nat renaming lt_or_ge -> aOd
open _root_.List renaming any_cons -> aOe
open _root_.List renaming contains_cons -> aOf
open _root_.List renaming mem_of_getElem? -> aOg
open _root_.List renaming all_cons -> aOh
open _root_.Bool renaming true_and -> aOi
open _root_.List renaming take_of_length_le -> aOj
open _root_.List renaming append_assoc -> aOk
open _root_.List renaming drop_length -> aOl
open _root_.Bool renaming false_or -> aOm
open _root_.Bool renaming beq_comm -> aOn
open _root_.Bool renaming not_eq_true' -> aOo
namespace Go.Proofs.YtdobepgddhbncaaGreatDoor
open Go Go.Pm
set_option linter.unusedSimpArgs false
set_option linter.unusedVariables false
theorem oT {σ ρ : Type} {body : σ -> Option (σ ⊕ ρ)} (V : σ -> ρ) (μ : σ -> Nat) (Inv : σ -> Prop)
    (h : ∀ x, Inv x -> (∃ y, body x = some (.inl y) /\ Inv y /\ μ y < μ x /\ V x = V y) ∨ body x = some (.inr (V x))) : ∀ x, Inv x -> aR body x = some (V x) := by
  have key : ∀ n x, μ x <= n -> Inv x -> aR body x = some (V x) := by
    intro n
    induction n with
    | zero =>
      intro x hx hi
      rw [aS]
      rcases h x hi with ⟨y, h1, h2, h3, h4⟩ | h1
      · omega
      · rw [h1]
    | succ n ih =>
      intro x hx hi
      rw [aS]
      rcases h x hi with ⟨y, h1, h2, h3, h4⟩ | h1
      · rw [h1, h4]; exact ih y (by omega) h2
      · rw [h1]
  exact fun x => key (μ x) x (aN3 _)
def j8 {α β ρ : Type} (step : β -> α -> β ⊕ ρ) (fin : β -> ρ) : List α -> β -> ρ
  | [], b => fin b
  | x :: l, b => match step b x with
    | .inl b' => j8 step fin l b'
    | .inr r => r
theorem kN {α β ρ : Type} (step : β -> α -> β ⊕ ρ) (fin : β -> ρ) (x : α) (l : List α) (b : β) : j8 step fin (x :: l) b = match step b x with
    | .inl b' => j8 step fin l b'
    | .inr r => r := by rw [j8]
theorem lJ {α β ρ σ : Type} {body : σ -> Option (σ ⊕ ρ)} (l : List α) (mk : Nat -> β -> σ) (step : β -> α -> β ⊕ ρ) (fin : β -> ρ) (Inv : Nat -> β -> Prop)
    (hs : ∀ (i : Nat) (b : β) (x : α), l[i]? = some x -> Inv i b -> (∃ b', step b x = .inl b' /\ body (mk i b) = some (.inl (mk (i + 1) b')) /\ Inv (i + 1) b') ∨ (∃ r, step b x = .inr r /\ body (mk i b) = some (.inr r)))
    (hf : ∀ b, Inv l.length b -> body (mk l.length b) = some (.inr (fin b))) : ∀ b0, Inv 0 b0 -> aR body (mk 0 b0) = some (j8 step fin l b0) := by
  have key : ∀ (m i : Nat) (b : β), m + i = l.length -> Inv i b -> aR body (mk i b) = some (j8 step fin (l.drop i) b) := by
    intro m
    induction m with
    | zero =>
      intro i b hm hi
      have : i = l.length := by omega
      subst this
      rw [aS, hf b hi, aOl]; rfl
    | succ m ih =>
      intro i b hm hi
      have hlt : i < l.length := by omega
      rw [aNX hlt]
      rcases hs i b l[i] (aNS hlt) hi with ⟨b', h1, h2, h3⟩ | ⟨r, h1, h2⟩
      · rw [aS, h2]
        show aR body (mk (i + 1) b') = _
        rw [ih (i + 1) b' (by omega) h3]
        unfold j8
        rw [h1]
        cases hd : l.drop (i + 1) <;> rfl
      · rw [aS, h2]
        unfold j8
        rw [h1]
  intro b0 h0
  have := key l.length 0 b0 (by omega) h0
  rwa [aN0] at this
theorem wrap_i64 {n : Int} (h : -9223372036854775808 <= n) (h' : n <= 9223372036854775807) : IntKind.i64.wrap n = n := aBk h h'
theorem bM {i n : Nat} (h : i < n) (hn : n <= maxLen) : IntKind.i64.wrap ((i : Int) + (1 : Int)) = ((i + 1 : Nat) : Int) := aKO h hn
theorem pQ {n : Int} (h : 0 <= n) (h' : n <= 18446744073709551615) : IntKind.u64.wrap n = n := IntWalk.u64_in n (by omega)
theorem bV {α : Type} {l : List α} {i : Nat} {x : α} (h : l[i]? = some x) : idx l (i : Int) = some x := by
  unfold idx
  rw [show decide ((0 : Int) <= (i : Int)) = true by simp]
  exact h
theorem aX {i n : Nat} (h : i < n) : decide ((i : Int) < (n : Int)) = true := by simp; omega
theorem bP (n : Nat) : decide ((n : Int) < (n : Int)) = false := by simp
theorem aO {α : Type} {l : List α} {i : Nat} {x : α} (h : l[i]? = some x) : i < l.length := (List.getElem?_eq_some_iff.1 h).1
theorem pR {p : UInt8 -> Bool} (h : ((List.range 256).all fun n => p (UInt8.ofNat n)) = true) (b : UInt8) : p b = true := by
  have := List.all_eq_true.1 h b.toNat (List.mem_range.2 b.toNat_lt)
  simpa using this
theorem qT {p q : UInt8 -> Bool} (h : ((List.range 256).all fun n => p (UInt8.ofNat n) == q (UInt8.ofNat n)) = true) (b : UInt8) : p b = q b := by
  have := pR (p := fun b => p b == q b) h b
  simpa using this
theorem aAY (b : UInt8) : u8 (b.toNat : Int) = b := by unfold u8; simp
theorem w9 (s : aA) (c : Int) : fJ s c = some (Lib.indexByte s (u8 c)) := rfl
theorem vL (s : aA) (c : UInt8) : decide (Lib.indexByte s c ≥ (0 : Int)) = s.contains c := by
  induction s with
  | nil => rfl
  | cons b l ih =>
    have h1 := Lib.indexByte_ge l c
    unfold Lib.indexByte
    by_cases hb : b = c
    · subst hb; simp
    · have hb' : (b == c) = false := by simpa using hb
      rw [hb', aOf]
      have hc : (c == b) = false := by simpa using fun h => hb h.symm
      rw [hc, aOm, <- ih]
      by_cases h2 : Lib.indexByte l c = -1
      · simp [h2]
      · have h3 : (Lib.indexByte l c == -1) = false := by simpa using h2
        simp only [Bool.false_eq_true, if_false, h3]
        rw [show decide (Lib.indexByte l c + 1 ≥ 0) = true by simp; omega, show decide (Lib.indexByte l c ≥ 0) = true by simp; omega]
theorem eU {α : Type} [Inhabited α] {g : Bool} {o : Option α} (h : g = true) : f6 g o = o := by subst h; rfl
theorem aBE {α : Type} [Inhabited α] {g : Bool} {o : Option α} (h : g = false) : f6 g o = some default := by subst h; rfl
theorem d8 {α : Type} {p : Prop} [Decidable p] {o : Option α} (h : p) : chk p o = o := by unfold chk; rw [if_pos h]
def wordB (b : UInt8) : Bool := (b ≥ 97 && b <= 122) || (b ≥ 65 && b <= 90) || (b ≥ 48 && b <= 57) || ([33, 35, 36, 37, 38, 39, 42, 43, 45, 46, 94, 95, 124, 126, 96] : List UInt8).contains b
def toks : List Bool := (List.range 256).map fun n => wordB (UInt8.ofNat n)
def oD (b : UInt8) : Bool := b == 32 || b == 9
def jF (p : UInt8 -> Bool) (s : aA) : aA := s.dropWhile p
def mS (p : UInt8 -> Bool) (s : aA) : aA := (s.reverse.dropWhile p).reverse
def trim (s : aA) : aA := jF oD (mS oD s)
theorem tD (p : UInt8 -> Bool) (s : aA) (b : UInt8) : mS p (s ++ [b]) = bif p b then mS p s else s ++ [b] := by
  unfold mS
  rw [List.reverse_append, List.reverse_cons, List.reverse_nil, aOc, List.singleton_append, aN9]
  cases p b <;> simp
theorem aGI (p : UInt8 -> Bool) : mS p [] = [] := rfl
theorem aBF (p : UInt8 -> Bool) (s : aA) : (jF p s).length <= s.length := (List.dropWhile_sublist p).length_le
theorem aIH (p : UInt8 -> Bool) (s : aA) : (mS p s).length <= s.length := by
  unfold mS
  have := (List.dropWhile_sublist p (l := s.reverse)).length_le
  simpa using this
theorem aBG (s : aA) : (trim s).length <= s.length := Nat.le_trans (aBF ..) (aIH ..)
theorem aJ0 {body : aA -> Option (aA ⊕ aA)} (p : UInt8 -> Bool) (n : Nat) (h0 : body [] = some (.inr [])) (h1 : ∀ x t, t.length < n -> body (x :: t) = some (bif p x then .inl t else .inr (x :: t))) :
    ∀ s, s.length <= n -> aR body s = some (jF p s) := by
  refine oT (jF p) List.length (fun s => s.length <= n) fun s hs => ?_
  cases s with
  | nil => exact .inr h0
  | cons x t =>
    have hb := h1 x t (by simp at hs; omega)
    cases hx : p x with
    | true =>
      rw [hx] at hb
      exact .inl ⟨t, hb, by simp at hs; omega, by simp, by unfold jF; rw [List.dropWhile_cons_of_pos hx]⟩
    | false =>
      rw [hx] at hb
      refine .inr ?_
      rw [hb]; unfold jF
      rw [List.dropWhile_cons_of_neg (by simp [hx])]; rfl
theorem loopR {body : aA -> Option (aA ⊕ aA)} (p : UInt8 -> Bool) (n : Nat) (h0 : body [] = some (.inr [])) (h1 : ∀ x t, t.length < n -> body (t ++ [x]) = some (bif p x then .inl t else .inr (t ++ [x]))) :
    ∀ s, s.length <= n -> aR body s = some (mS p s) := by
  refine oT (mS p) List.length (fun s => s.length <= n) fun s hs => ?_
  rcases List.eq_nil_or_concat s with rfl | ⟨t, x, rfl⟩
  · exact .inr h0
  · rw [List.concat_eq_append] at hs ⊢
    have hb := h1 x t (by simp at hs; omega)
    rw [tD]
    cases hx : p x with
    | true =>
      rw [hx] at hb
      exact .inl ⟨t, hb, by simp at hs; omega, by simp, rfl⟩
    | false =>
      rw [hx] at hb
      exact .inr hb
theorem qU (x : UInt8) (t : aA) : slc (x :: t) (1 : Int) (((x :: t).length : Nat) : Int) = some t := by
  unfold slc
  rw [d8 (by simp; omega)]
  simp
theorem aEQ (x : UInt8) (t : aA) (h : t.length < maxLen) : slc (t ++ [x]) 0 (IntKind.i64.wrap (((t ++ [x]).length : Int) - (1 : Int))) = some t := by
  have : IntKind.i64.wrap (((t ++ [x]).length : Int) - (1 : Int)) = (t.length : Int) := by
    unfold maxLen at h
    have e : ((t ++ [x]).length : Int) = (t.length : Int) + 1 := by simp
    rw [e, wrap_i64 (by omega) (by omega)]; omega
  rw [this]
  unfold slc
  rw [d8 (by simp; omega)]
  simp
theorem aER (x : UInt8) (t : aA) (h : t.length < maxLen) : idx (t ++ [x]) (IntKind.i64.wrap (((t ++ [x]).length : Int) - (1 : Int))) = some x := by
  have : IntKind.i64.wrap (((t ++ [x]).length : Int) - (1 : Int)) = (t.length : Int) := by
    unfold maxLen at h
    have e : ((t ++ [x]).length : Int) = (t.length : Int) + 1 := by simp
    rw [e, wrap_i64 (by omega) (by omega)]; omega
  rw [this]
  exact bV (by simp)
theorem tE (x : UInt8) (t : aA) : decide ((((x :: t).length : Nat) : Int) > (0 : Int)) = true := by simp
theorem xS (x : UInt8) (t : aA) : decide ((((t ++ [x]).length : Nat) : Int) > (0 : Int)) = true := by simp
def bset : List Bool := (List.range 256).map fun n => oD (UInt8.ofNat n)
theorem aII (b : UInt8) : bset[b.toNat]? = some (oD b) := by
  unfold bset
  rw [List.getElem?_map, List.getElem?_range b.toNat_lt]
  simp
theorem aJ1 : bH [32, 9] = some (bset, true) := by
  unfold bH
  exact l5.2 ⟨3, by kernel_rfl⟩
theorem yN (b : UInt8) : bX bset (b.toNat : Int) = some (oD b) := by
  have := b.toNat_lt
  unfold bX
  rw [d8 (by omega), bV (aII b)]; rfl
theorem xM {s : aA} : cR s bset = some (jF oD s) := by
  unfold cR
  rw [aJ0 oD s.length rfl (fun x t _ => ?_) s (aN3 _)]
  · rfl
  · unfold eL
    rw [tE, aNP, show idx (x :: t) (0 : Int) = some x from rfl, aNR, yN, aNR, qU, aNR]
    cases oD x <;> rfl
theorem wI {s : aA} (hs : s.length <= maxLen) : fA s bset = some (mS oD s) := by
  unfold fA
  rw [loopR oD s.length rfl (fun x t ht => ?_) s (aN3 _)]
  · rfl
  · unfold fS
    rw [xS, aNP, aER x t (by omega), aNR, yN, aNR, aEQ x t (by omega), aNR]
    cases oD x <;> rfl
theorem aBH {s : aA} (hs : s.length <= maxLen) : nE s = some (trim s) := by
  unfold nE pO
  by_cases h : s = []
  · subst h; rfl
  · have h1 : (s == ([] : aA)) = false := by simpa using h
    rw [h1, show (bif false then true else (([32, 9] : aA) == ([] : aA))) = false from rfl, aNQ, show gidx ((([32, 9] : aA).length : Int) == (1 : Int)) ([32, 9] : aA) (0 : Int) = some default from rfl, aNR]
    rw [show (bif ((([32, 9] : aA).length : Int) == (1 : Int)) then (decide (((default : UInt8).toNat : Int) < (128 : Int))) else false) = false from rfl, aNQ, aJ1, aNR, d8 (by unfold bset; simp), d8 (by unfold bset; simp)]
    rw [aNP, wI hs, aNR, xM]; rfl
theorem yO (b : UInt8) : fG (b.toNat : Int) = some (oD b) := by
  unfold fG
  exact congrArg some (qT (p := fun b => bif ((b.toNat : Int) == (32 : Int)) then true else ((b.toNat : Int) == (9 : Int))) (q := oD) (by kernel_rfl) b)
theorem uP {α : Type} [Inhabited α] {g : Bool} {l : List α} {n : Int} (h : g = true) : gidx g l n = idx l n := by subst h; rfl
theorem aIJ {P : aA -> Prop} (h0 : P []) (h1 : ∀ t x, P t -> P (t ++ [x])) (s : aA) : P s := by
  have : ∀ l : aA, P l.reverse := by
    intro l
    induction l with
    | nil => exact h0
    | cons x l ih => rw [List.reverse_cons]; exact h1 _ _ ih
  have h := this s.reverse
  rwa [List.reverse_reverse] at h
theorem aAZ (p : UInt8 -> Bool) : ∀ (s : aA), mS p (jF p s) = jF p (mS p s) := by
  intro s
  have hall : ∀ (l : aA), (∀ x, x ∈ l -> p x = true) -> jF p l = [] := by
    intro l hl
    induction l with
    | nil => rfl
    | cons x l ih =>
      unfold jF
      rw [List.dropWhile_cons_of_pos (hl x (List.mem_cons_self ..))]
      exact ih fun y hy => hl y (List.mem_cons_of_mem _ hy)
  have hrev : ∀ l, mS p l = (jF p l.reverse).reverse := fun l => rfl
  -- front: blanks, then one that is not
  rcases Classical.em (∀ x, x ∈ s -> p x = true) with ha | hn
  · have e : jF p s.reverse = [] := hall _ fun x hx => ha x (by simpa using hx)
    rw [hall s ha, hrev s, e]; rfl
  · have hsplit : ∀ (l : aA), (¬ ∀ x, x ∈ l -> p x = true) -> ∃ a y c, l = a ++ y :: c /\ (∀ x, x ∈ a -> p x = true) /\ p y = false := by
      intro l
      induction l with
      | nil => intro h; exact absurd (by simp) h
      | cons x l ih =>
        intro h
        cases hx : p x with
        | false => exact ⟨[], x, l, rfl, by simp, hx⟩
        | true =>
          obtain ⟨a, y, c, h1, h2, h3⟩ := ih (fun h' => h fun z hz => by
            rcases List.mem_cons.1 hz with rfl | hz
            · exact hx
            · exact h' z hz)
          exact ⟨x :: a, y, c, by rw [h1]; rfl, fun z hz => by
            rcases List.mem_cons.1 hz with rfl | hz
            · exact hx
            · exact h2 z hz, h3⟩
    obtain ⟨a, y, c, rfl, ha, hy⟩ := hsplit s hn
    have hL : ∀ (u : aA), jF p (a ++ y :: u) = y :: u := by
      intro u
      unfold jF
      rw [List.dropWhile_append_of_pos (by simpa using ha), List.dropWhile_cons_of_neg (by simp [hy])]
    have hR' : ∀ (a : aA), mS p (a ++ y :: c) = a ++ y :: mS p c := by
      intro a
      clear hL ha hn
      refine aIJ (P := fun c => mS p (a ++ y :: c) = a ++ y :: mS p c) ?_ (fun c x ih => ?_) c
      · rw [aGI, tD, hy]; rfl
      · rw [show a ++ y :: (c ++ [x]) = (a ++ y :: c) ++ [x] by simp, tD, tD]
        cases p x with
        | true => exact ih
        | false => simp
    rw [hL, hR', hL]
    exact hR' []
theorem wJ {s : aA} (hs : s.length <= maxLen) : eO s = some (trim s) := by
  unfold eO
  rw [aJ0 oD s.length rfl (fun x t ht => ?_) s (aN3 _), aNR]
  · have hd := aBF oD s
    rw [loopR oD s.length rfl (fun x t ht => ?_) (jF oD s) hd, aNR]
    · rw [aAZ]; rfl
    · unfold iE
      rw [uP (xS x t), aER x t (by omega), aNR, eU (xS x t), yO, aNR, xS, aNP, aEQ x t (by omega), aNR]
      cases oD x <;> rfl
  · unfold iD
    rw [uP (tE x t), show idx (x :: t) (0 : Int) = some x from rfl, aNR, eU (tE x t), yO, aNR, tE, aNP, qU, aNR]
    cases oD x <;> rfl
def aY (s p : aA) : Bool := p.isPrefixOf s
theorem kF (s p : aA) : aP s p = some (aY s p) := by
  unfold aP bY gslc
  rw [d8 (fun h => by simp at h; omega)]
  simp only [aNR]
  refine congrArg some ?_
  unfold aY
  by_cases h : p.length <= s.length
  · rw [show decide ((s.length : Int) ≥ (p.length : Int)) = true by simp; omega, aNP, aN1, beq_iff_eq, List.isPrefixOf_iff_prefix, List.prefix_iff_eq_take]
    simp only [Int.toNat_zero, aN0, aNW, Nat.sub_zero]
    exact ⟨fun h => h.symm, fun h => h.symm⟩
  · rw [show decide ((s.length : Int) ≥ (p.length : Int)) = false by simp; omega, aNQ]
    symm
    rw [Bool.eq_false_iff]
    intro hp
    have := (List.isPrefixOf_iff_prefix.1 hp).length_le
    omega
def lowB (b : UInt8) : UInt8 := bif b ≥ 65 && b <= 90 then b + 32 else b
def kO (s : aA) : aA := s.map lowB
theorem aCQ (s : aA) : (kO s).length = s.length := by simp [kO]
theorem low1 (b : UInt8) : (bif (bif (decide ((b.toNat : Int) ≥ (65 : Int))) then (decide ((b.toNat : Int) <= (90 : Int))) else false) then u8 (IntKind.u8.wrap ((IntKind.u8.wrap ((b.toNat : Int) + (97 : Int))) - (65 : Int))) else b) = lowB b := by
  have := pR (p := fun b => (bif (bif (decide ((b.toNat : Int) ≥ (65 : Int))) then (decide ((b.toNat : Int) <= (90 : Int))) else false) then u8 (IntKind.u8.wrap ((IntKind.u8.wrap ((b.toNat : Int) + (97 : Int))) - (65 : Int))) else b) == lowB b) (by kernel_rfl) b
  simpa using this
theorem low2 (b : UInt8) : (bif (bif (decide ((b.toNat : Int) ≥ (65 : Int))) then (decide ((b.toNat : Int) <= (90 : Int))) else false) then u8 (IntKind.u8.wrap ((b.toNat : Int) + (32 : Int))) else b) = lowB b := by
  have := pR (p := fun b => (bif (bif (decide ((b.toNat : Int) ≥ (65 : Int))) then (decide ((b.toNat : Int) <= (90 : Int))) else false) then u8 (IntKind.u8.wrap ((b.toNat : Int) + (32 : Int))) else b) == lowB b) (by kernel_rfl) b
  simpa using this
theorem aJ2 {α : Type} {l : List α} {i : Nat} {x : α} (h : i < l.length) : seti l (i : Int) x = some (l.set i x) := by
  unfold seti
  rw [d8 (by omega), aNW]
theorem aBI {s : aA} (hs : s.length <= maxLen) : m0 s = some (kO s) := by
  unfold m0
  have key : aR (jC s) ((0 : Int), s) = some (kO s) := by
    have h := oT (body := jC s) (fun _ => kO s) (fun x => s.length - x.1.toNat) (fun x => ∃ i : Nat, i <= s.length /\ x = ((i : Int), kO (s.take i) ++ s.drop i)) ?_ ((0 : Int), s) ⟨0, aN4 _, by simp [kO]⟩
    · exact h
    · rintro _ ⟨i, hi, rfl⟩
      rcases aOd i s.length with hlt | hge
      · left
        have hget : (kO (s.take i) ++ s.drop i)[i]? = some s[i] := by
          rw [List.getElem?_append_right (by simp [kO]; omega)]
          simp [kO, show min i s.length = i by omega]
        have hll : (kO (s.take i) ++ s.drop i).length = s.length := by simp [kO]; omega
        refine ⟨(((i + 1 : Nat) : Int), kO (s.take (i + 1)) ++ s.drop (i + 1)), ?_, ⟨i + 1, hlt, rfl⟩, by simp; omega, rfl⟩
        have hnew : (kO (s.take i) ++ s.drop i).set i (lowB s[i]) = kO (s.take (i + 1)) ++ s.drop (i + 1) := by
          rw [List.take_succ_eq_append_getElem hlt, aNX hlt]
          have hl : (kO (s.take i)).length = i := by simp [kO]; omega
          rw [List.set_append_right _ _ (by omega), hl, Nat.sub_self, List.set_cons_zero]
          unfold kO
          rw [List.map_append, aOk]; rfl
        have hsame : lowB s[i] = s[i] -> kO (s.take i) ++ s.drop i = kO (s.take (i + 1)) ++ s.drop (i + 1) := fun h => by
          rw [<- hnew, h]
          refine (List.ext_getElem? fun j => ?_)
          rw [List.getElem?_set]
          by_cases hj : i = j
          · subst hj; rw [if_pos rfl, if_pos (by omega), hget]
          · rw [if_neg hj]
        unfold jC
        dsimp only
        rw [aX hlt, aNP, d8 (by omega), bV hget, aNR, d8 (by omega), aJ2 (by omega), aNR, bM hlt hs]
        have h1 := low1 s[i]
        cases hc : (bif (decide ((s[i].toNat : Int) ≥ (65 : Int))) then (decide ((s[i].toNat : Int) <= (90 : Int))) else false) with
        | true =>
          rw [hc, aNP] at h1
          rw [h1, hnew]; rfl
        | false =>
          rw [hc, aNQ] at h1
          rw [aNQ, hsame h1.symm]
      · right
        have : i = s.length := by omega
        subst this
        unfold jC
        dsimp only
        rw [bP]
        simp [kO]
  rw [key, aNR, d8 (by rw [aCQ]; exact aN3 _), aOj (by rw [aCQ]; exact aN3 _)]
theorem jG {s t : aA} (h : s.length + t.length <= maxLen) : cat s t = some (s ++ t) := by unfold cat; exact d8 h
theorem yP {s : aA} (hs : s.length <= maxLen) : bR s = some (kO s) := by
  unfold bR
  have hfold : ∀ (l acc : aA), j8 (ρ := aA) (fun a b => .inl (a ++ [lowB b])) (fun a => a) l acc = acc ++ kO l := by
    intro l
    induction l with
    | nil => intro acc; simp [j8, kO]
    | cons x l ih =>
      intro acc
      show j8 _ _ l (acc ++ [lowB x]) = _
      rw [ih]; simp [kO]
  have key := lJ (body := d6 s) s (fun i b => (b, (i : Int))) (fun a b => .inl (a ++ [lowB b])) (fun a => a) (fun i b => b.length = i) (fun i b x hx hi => ?_) (fun b hi => ?_) [] rfl
  · rw [show (([] : aA), (0 : Int)) = (([] : aA), ((0 : Nat) : Int)) from rfl, key, hfold]; rfl
  · have hlt := aO hx
    refine .inl ⟨_, rfl, ?_, by simp [hi]⟩
    unfold d6
    dsimp only
    rw [aX hlt, aNP, bV hx, aNR, jG (by simp; omega), jG (by simp; omega), aNR, aNR, bM hlt hs, aAY]
    have h2 := low2 x
    cases hc : (bif (decide ((x.toNat : Int) ≥ (65 : Int))) then (decide ((x.toNat : Int) <= (90 : Int))) else false) with
    | true => rw [hc, aNP] at h2; rw [aNP, h2]
    | false => rw [hc, aNQ] at h2; rw [aNQ, <- h2]
  · unfold d6
    dsimp only
    rw [bP]; rfl
theorem aBJ {l : aA} (hl : l.length <= maxLen) {ρ : Type} {body : Int -> Option (Int ⊕ ρ)} (p : UInt8 -> Bool) (yes no : ρ) (hs : ∀ (i : Nat) (x : UInt8), l[i]? = some x -> body (i : Int) = some (bif p x then .inr yes else .inl (((i + 1 : Nat)) : Int)))
    (hf : body (l.length : Int) = some (.inr no)) : aR body (0 : Int) = some (bif l.any p then yes else no) := by
  have hfold : ∀ (l : aA), j8 (β := Unit) (fun _ b => bif p b then .inr yes else .inl ()) (fun _ => no) l () = bif l.any p then yes else no := by
    intro l
    induction l with
    | nil => rfl
    | cons x l ih =>
      unfold j8
      rw [aOe]
      cases hx : p x with
      | true => rfl
      | false => exact ih
  rw [<- hfold]
  refine lJ l (fun i _ => (i : Int)) _ _ (fun _ _ => True) (fun i b x hx _ => ?_) (fun b _ => hf) () trivial
  have := hs i x hx
  cases hp : p x with
  | true => rw [hp] at this; exact .inr ⟨yes, rfl, this⟩
  | false => rw [hp] at this; exact .inl ⟨(), rfl, this, trivial⟩
def ctlB (b : UInt8) : Bool := (b < 32 && b != 9) || b == 127
theorem aJ3 (b : UInt8) : (bif (bif (decide ((b.toNat : Int) < (32 : Int))) then ((b.toNat : Int) != (9 : Int)) else false) then true else ((b.toNat : Int) == (127 : Int))) = ctlB b :=
  qT (p := fun b => bif (bif (decide ((b.toNat : Int) < (32 : Int))) then ((b.toNat : Int) != (9 : Int)) else false) then true else ((b.toNat : Int) == (127 : Int))) (q := ctlB) (by kernel_rfl) b
theorem aA0 (b : UInt8) : fU (b.toNat : Int) = some (ctlB b) := congrArg some (aJ3 b)
theorem n9 {α : Type} {e : Nat} {s t : List α} (h : s.length + t.length <= 1000000) (he : e <= 1000) : app e s t = some (s ++ t) := by
  unfold app
  refine d8 ⟨by unfold maxLen; omega, ?_⟩
  calc (s.length + t.length) * e <= 1000000 * 1000 := Nat.mul_le_mul h he
    _ <= _ := by decide
theorem aES {α β : Type} (g : α -> β) : ∀ (l : List α) (acc : List β), j8 (ρ := List β) (fun a x => .inl (a ++ [g x])) (fun a => a) l acc = acc ++ l.map g
  | [], acc => by simp [j8]
  | x :: l, acc => by
    show j8 _ _ l (acc ++ [g x]) = _
    rw [aES g l]; simp
def sep : aA := [44, 32]
def dv (b : UInt8) : Int := (b.toNat : Int) - 48
def fO (b : UInt8) : Bool := b ≥ 48 && b <= 57
theorem aJ4 {b : UInt8} (h : fO b = true) : 0 <= dv b /\ dv b <= 9 := by
  have := pR (p := fun b => !fO b || (decide (0 <= dv b) && decide (dv b <= 9))) (by kernel_rfl) b
  rw [h] at this
  simpa using this
def over : aA -> Int -> Bool
  | [], _ => false
  | x :: l, n => bif decide (n * 10 + dv x > 1099511627776) then true else over l (n * 10 + dv x)
def valF : aA -> Int -> Int
  | [], n => n
  | x :: l, n => valF l (n * 10 + dv x)
def decR (t : aA) (n : Int) (long : Bool) : Int × Int := bif t.all fO then (bif long || over t n then (0, 2) else (valF t n, 0)) else (0, 10)
def dec (s : aA) : Int × Int := bif s == ([] : aA) then (0, 10) else decR s 0 false
def aBK (c : Int × Bool) (x : UInt8) : (Int × Bool) ⊕ (Int × Int) := bif fO x then (bif decide (c.1 * 10 + dv x > 1099511627776) then .inl (0, true) else .inl (c.1 * 10 + dv x, c.2)) else .inr (0, 10)
def aGJ (c : Int × Bool) : Int × Int := bif c.2 then (0, 2) else (c.1, 0)
def aET (c : Int) (x : UInt8) : Int ⊕ (Int ⊕ (Int × Int)) := bif decide (c * 10 + dv x > 1099511627776) then .inr (.inr (0, 2)) else .inl (c * 10 + dv x)
def rdFin (c : Int) : Int ⊕ (Int × Int) := .inr (c, 0)
theorem val1 (b : UInt8) : ∃ v, eF (b.toNat : Int) = some v /\ decide (v ≥ (10 : Int)) = (!fO b) /\ (fO b = true -> v = dv b) := by
  have := pR (p := fun b => match eF (b.toNat : Int) with | some v => (decide (v ≥ (10 : Int)) == !fO b) && (!fO b || v == dv b) | none => false) (by kernel_rfl) b
  cases h : eF (b.toNat : Int) with
  | none => rw [h] at this; cases this
  | some v =>
    rw [h] at this
    simp only [aN6, beq_iff_eq, Bool.or_eq_true, aOo] at this
    exact ⟨v, rfl, this.1, fun hd => this.2.resolve_left (by rw [hd]; simp)⟩
theorem aGK {s : aA} (hs : s.length <= maxLen) : f7 s 10 = some (dec s) := by
  unfold f7 dec
  cases h0 : (s == ([] : aA)) with
  | true => rfl
  | false =>
    simp only [aNQ]
    -- the second loop
    have h2 : s.all fO = true -> aR (dI s 10) ((0 : Int), (0 : Int)) = some (.inr (decR s 0 false)) := by
      intro hall
      have hf : ∀ (l : aA) (n : Int), l.all fO = true -> j8 aET rdFin l n = .inr (decR l n false) := by
        intro l
        induction l with
        | nil => intro n _; rfl
        | cons x l ih =>
          intro n ha
          rw [aOh, aN6] at ha
          unfold decR
          rw [aOh, ha.1, ha.2, kN, show aET n x = (bif decide (n * 10 + dv x > 1099511627776) then .inr (.inr (0, 2)) else .inl (n * 10 + dv x)) from rfl]
          unfold over valF
          cases hm : decide (n * 10 + dv x > 1099511627776) with
          | true => rfl
          | false =>
            simp only [aNQ]
            rw [ih _ ha.2]; unfold decR; rw [ha.2]; rfl
      have key := lJ (body := dI s 10) s (fun i (c : Int) => (c, (i : Int))) aET rdFin (fun i c => 0 <= c /\ c <= 1099511627776) (fun i c x hx hi => ?_) (fun c hi => ?_) 0 ⟨by simp, by simp⟩
      · rw [show ((0 : Int), (0 : Int)) = ((0 : Int), ((0 : Nat) : Int)) from rfl, key, hf _ _ hall]
      · have hlt := aO hx
        have hd : fO x = true := List.all_eq_true.1 hall x (aOg hx)
        have hdv := aJ4 hd
        obtain ⟨v, v1, v2, v3⟩ := val1 x
        unfold dI
        dsimp only
        rw [aX hlt, aNP, bV hx, aNR, v1, aNR, v3 hd, Int.mul_comm 10 c, pQ (show 0 <= c * 10 by omega) (by omega), pQ (show 0 <= c * 10 + dv x by omega) (by omega), bM hlt hs]
        unfold aET
        cases hm : decide (c * 10 + dv x > 1099511627776) with
        | true => exact .inr ⟨_, rfl, rfl⟩
        | false => exact .inl ⟨_, rfl, rfl, by omega, by simpa using hm⟩
      · unfold dI
        dsimp only
        rw [bP]; rfl
    have hf : ∀ (l : aA), j8 (β := Unit) (ρ := Int × Int) (fun _ x => bif fO x then .inl () else .inr (0, 10)) (fun _ => decR s 0 false) l () = bif l.all fO then decR s 0 false else (0, 10) := by
      intro l
      induction l with
      | nil => rfl
      | cons x l ih =>
        unfold j8
        rw [aOh]
        cases fO x with
        | true => exact ih
        | false => rfl
    have hfin : (bif s.all fO then decR s 0 false else ((0 : Int), (10 : Int))) = decR s 0 false := by
      unfold decR
      cases s.all fO <;> rfl
    rw [<- hfin, <- hf]
    have h3 : ∀ (m i : Nat), m + i = s.length -> aR (cH s 10) (i : Int) = (bif (s.take i).all fO then some (j8 (β := Unit) (ρ := Int × Int) (fun _ x => bif fO x then .inl () else .inr (0, 10)) (fun _ => decR s 0 false) (s.drop i) ()) else aR (cH s 10) (i : Int)) := by
      intro m
      induction m with
      | zero =>
        intro i hm
        have : i = s.length := by omega
        subst this
        rw [List.take_length, aOl]
        cases hall : s.all fO with
        | false => rfl
        | true =>
          rw [aS]
          have hb : cH s 10 (s.length : Int) = some (.inr (decR s 0 false)) := by
            unfold cH
            rw [bP, aNQ, h2 hall]
          rw [hb]; rfl
      | succ m ih =>
        intro i hm
        have hlt : i < s.length := by omega
        have hx : s[i]? = some s[i] := aNS hlt
        cases hall : (s.take i).all fO with
        | false => rfl
        | true =>
          rw [aS, aNX hlt, aNP]
          obtain ⟨v, v1, v2, v3⟩ := val1 s[i]
          unfold j8
          have hb : cH s 10 (i : Int) = some (bif fO s[i] then .inl ((i + 1 : Nat) : Int) else .inr (0, 10)) := by
            unfold cH
            rw [aX hlt, aNP, bV hx, aNR, v1, aNR, v2, bM hlt hs]
            cases fO s[i] <;> rfl
          rw [hb]
          cases hd : fO s[i] with
          | false => rfl
          | true =>
            have h4 := ih (i + 1) (by omega)
            have h5 : (s.take (i + 1)).all fO = true := by rw [List.take_succ_eq_append_getElem hlt, List.all_append, hall]; simp [hd]
            rw [h5, aNP] at h4
            exact h4
    have := h3 s.length 0 (by omega)
    rw [List.take_zero, aN0] at this
    exact this
theorem aA1 : ∀ (t : aA) (n : Int), 0 <= n -> n <= 1099511627776 -> t.all fO = true -> over t n = false -> 0 <= valF t n /\ valF t n <= 1099511627776
  | [], n, h0, h1, _, _ => ⟨h0, h1⟩
  | x :: t, n, h0, h1, ha, ho => by
    rw [aOh, aN6] at ha
    have hd := aJ4 ha.1
    unfold over at ho
    unfold valF
    cases hm : decide (n * 10 + dv x > 1099511627776) with
    | true => rw [hm] at ho; cases ho
    | false =>
      rw [hm, aNQ] at ho
      exact aA1 t _ (by omega) (by simpa using hm) ha.2 ho
def sizeOf (s : aA) : Int := bif (dec s).2 == 2 then -1 else (dec s).1
theorem big {n : Nat} (h : n <= 20000000000) : n <= maxLen := by unfold maxLen; omega
theorem aJ5 (k : Nat) (h : k < 10) : slc ([48, 49, 50, 51, 52, 53, 54, 55, 56, 57, 97, 98, 99, 100, 101, 102] : aA) (k : Int) (IntKind.u64.wrap ((k : Int) + (1 : Int))) = some [UInt8.ofNat (48 + k)] := by
  have : k = 0 ∨ k = 1 ∨ k = 2 ∨ k = 3 ∨ k = 4 ∨ k = 5 ∨ k = 6 ∨ k = 7 ∨ k = 8 ∨ k = 9 := by omega
  rcases this with rfl | rfl | rfl | rfl | rfl | rfl | rfl | rfl | rfl | rfl <;> rfl
def digV (x : Int × aA) : aA := bif (bif decide (x.1 > 0) then true else (x.2 == ([] : aA))) then Lib.decDigits x.1.toNat ++ x.2 else x.2
theorem aGL (n : Nat) (hn : n < 18446744073709551616) : d3 (n : Int) 10 = some (Lib.decDigits n) := by
  unfold d3
  have key := oT (body := eS 10) digV (fun x => 2 * x.1.toNat + (bif x.2 == ([] : aA) then 1 else 0)) (fun x => 0 <= x.1 /\ x.1 < 18446744073709551616 /\ x.1.toNat * 10 ^ x.2.length < 18446744073709551616) (fun x hx => ?_) ((n : Int), ([] : aA)) ⟨by simp, by simp; omega, by simp; omega⟩
  · rw [key, aNR]
    unfold digV
    have e : (bif decide ((n : Int) > 0) then true else (([] : aA) == ([] : aA))) = true := by cases decide ((n : Int) > 0) <;> rfl
    dsimp only
    rw [e, aNP, List.append_nil, aNW]
  · obtain ⟨x, s⟩ := x
    dsimp only at hx ⊢
    obtain ⟨h0, h1, h2⟩ := hx
    obtain ⟨k, rfl⟩ : ∃ k : Nat, x = k := ⟨x.toNat, by omega⟩
    rw [aNW] at h2
    unfold eS digV
    dsimp only
    cases hc : (bif decide ((k : Int) > 0) then true else (s == ([] : aA))) with
    | false => exact .inr rfl
    | true =>
      refine .inl ⟨(((k / 10 : Nat) : Int), [UInt8.ofNat (48 + k % 10)] ++ s), ?_, ⟨by show (0 : Int) <= ((k / 10 : Nat) : Int); omega, by show ((k / 10 : Nat) : Int) < _; omega, ?_⟩, ?_, ?_⟩
      · have hm : (k : Int).tmod 10 = ((k % 10 : Nat) : Int) := by rw [Int.tmod_eq_emod_of_nonneg (by omega)]; rfl
        have hd : (k : Int).tdiv 10 = ((k / 10 : Nat) : Int) := by rw [Int.tdiv_eq_ediv_of_nonneg (by omega)]; rfl
        have hs : s.length < 20 := by
          by_cases hk : k = 0
          · subst hk
            have : s = [] := by simpa using hc
            subst this; simp
          · refine Nat.lt_of_not_le fun hle => ?_
            have : 10 ^ 20 <= 10 ^ s.length := Nat.pow_le_pow_right (by omega) hle
            have : 1 * 10 ^ s.length <= k * 10 ^ s.length := Nat.mul_le_mul_right _ (by omega)
            have e20 : (10 : Nat) ^ 20 = 100000000000000000000 := by kernel_rfl
            omega
        have hw : IntKind.u64.wrap ((k % 10 : Nat) : Int) = ((k % 10 : Nat) : Int) := pQ (by omega) (by omega)
        rw [aNP, hm, d8 ⟨rfl, hw⟩, d8 ⟨rfl, hw⟩, aJ5 _ (Nat.mod_lt _ (by omega)), aNR, jG (by simp; unfold maxLen; omega), aNR, d8 (show ((10 : Int) == 0) = false from rfl), hd, pQ (by omega) (by omega)]
      · show ((k / 10 : Nat) : Int).toNat * 10 ^ ([UInt8.ofNat (48 + k % 10)] ++ s).length < _
        rw [aNW, aOa, List.length_singleton, Nat.add_comm 1, Nat.pow_succ]
        have : k / 10 * (10 ^ s.length * 10) = (k / 10 * 10) * 10 ^ s.length := by rw [Nat.mul_comm (10 ^ s.length) 10, Nat.mul_assoc]
        rw [this]
        exact Nat.lt_of_le_of_lt (Nat.mul_le_mul_right _ (Nat.div_mul_le_self k 10)) h2
      · show 2 * ((k / 10 : Nat) : Int).toNat + _ < 2 * ((k : Nat) : Int).toNat + _
        rw [aNW, aNW]
        have e1 : (([UInt8.ofNat (48 + k % 10)] ++ s) == ([] : aA)) = false := rfl
        rw [e1, aNQ]
        by_cases hk : k = 0
        · subst hk
          have : s = [] := by simpa using hc
          subst this; simp
        · cases (s == ([] : aA)) <;> simp <;> omega
      · rw [aNP, aNW]
        by_cases h10 : k < 10
        · have e2 : k / 10 = 0 := by omega
          rw [e2]
          have e3 : k % 10 = k := by omega
          rw [Lib.decDigits, dif_pos h10, e3]
          rfl
        · have e3 : decide (((k / 10 : Nat) : Int) > 0) = true := by simp; omega
          rw [e3, aNP, aNP, aNW]
          conv => lhs; rw [Lib.decDigits, dif_neg h10]
          rw [aOk]
theorem Dec_eq (n : Nat) (hn : n < 18446744073709551616) : m9 (n : Int) = some (Lib.decDigits n) := by
  unfold m9 jV
  rw [d8 ⟨rfl, by omega, by omega⟩]
  rfl
theorem aCR {n : Nat} (h : n < 10) : Lib.decDigits n = [UInt8.ofNat (48 + n)] := Lib.decDigits_one h
theorem aGM {n : Nat} (h : ¬ n < 10) : Lib.decDigits n = Lib.decDigits (n / 10) ++ [UInt8.ofNat (48 + n % 10)] := by rw [Lib.decDigits, dif_neg h]
section
variable {α β : Type} {P : α -> Prop} {Q : β -> Prop}
end
theorem aFO (s : aA) (c : UInt8) : gT s [c] = some (Lib.indexByte s c) := rfl
theorem aCS (s : aA) (c : UInt8) : bT s [c] = some (decide (Lib.indexByte s c ≥ (0 : Int))) := rfl
def cutC (c : UInt8) : aA -> aA × aA × Bool
  | [] => ([], [], false)
  | x :: s => bif x == c then ([], s, true) else (x :: (cutC c s).1, (cutC c s).2)
theorem oL (c : UInt8) : ∀ (s : aA), (Lib.indexByte s c = -1 /\ cutC c s = (s, [], false)) ∨ ∃ i : Nat, Lib.indexByte s c = (i : Int) /\ i < s.length /\ cutC c s = (s.take i, s.drop (i + 1), true)
  | [] => .inl ⟨rfl, rfl⟩
  | x :: s => by
    unfold Lib.indexByte cutC
    cases hx : (x == c) with
    | true => exact .inr ⟨0, rfl, by simp, by simp⟩
    | false =>
      rcases oL c s with ⟨h1, h2⟩ | ⟨i, h1, h2, h3⟩
      · left; rw [h1, h2]; exact ⟨rfl, rfl⟩
      · right
        refine ⟨i + 1, ?_, by simpa using h2, by rw [h3]; simp⟩
        rw [h1]
        have : ((i : Int) == -1) = false := by simp
        simp [this]
theorem yQ {s : aA} (c : UInt8) (hs : s.length <= maxLen) : dO s [c] = some (cutC c s) := by
  unfold dO kA
  rw [aFO, aNR]
  rcases oL c s with ⟨h1, h2⟩ | ⟨i, h1, h2, h3⟩
  · rw [h1, h2]; rfl
  · rw [h1, h3]
    have e : decide ((i : Int) ≥ (0 : Int)) = true := by simp
    have e2 : IntKind.i64.wrap ((i : Int) + (((([c] : aA).length : Nat) : Int))) = ((i + 1 : Nat) : Int) := by
      rw [wrap_i64 (by simp; omega) (by unfold maxLen at hs; simp; omega)]; simp
    rw [e, aNP, e2]
    have h4 : slc s 0 (i : Int) = some (s.take i) := by unfold slc; rw [d8 (by omega)]; simp
    have h5 : slc s ((i + 1 : Nat) : Int) (s.length : Int) = some (s.drop (i + 1)) := by
      unfold slc
      rw [d8 (by omega)]
      show some ((s.drop (i + 1)).take (s.length - (i + 1))) = _
      rw [aOj (by rw [aNU]; exact aN3 _)]
    rw [h4, aNR, h5]; rfl
theorem wK (c : UInt8) (s : aA) : (cutC c s).1.length <= s.length /\ (cutC c s).2.1.length <= s.length := by
  rcases oL c s with ⟨_, h⟩ | ⟨i, _, h1, h⟩
  · rw [h]; exact ⟨aN3 _, aN4 _⟩
  · rw [h]; simp; omega
theorem aD1 (c : UInt8) : ∀ {a : aA} (t : aA), a.contains c = false -> cutC c (a ++ c :: t) = (a, t, true)
  | [], t, _ => by simp [cutC]
  | x :: a, t, h => by
    rw [aOf, Bool.or_eq_false_iff] at h
    have hx : (x == c) = false := by
      cases hx : (x == c) with
      | false => rfl
      | true => rw [eq_of_beq hx] at h; simp at h
    rw [aOb]
    unfold cutC
    rw [hx, aD1 c t h.2]; rfl
theorem vM (c : UInt8) (s : aA) (h : (cutC c s).2.2 = true) : s = (cutC c s).1 ++ c :: (cutC c s).2.1 := by
  induction s with
  | nil => cases h
  | cons x s ih =>
    unfold cutC at h ⊢
    cases hx : (x == c) with
    | true => rw [eq_of_beq hx]; rfl
    | false =>
      rw [hx] at h
      show x :: s = (x :: (cutC c s).1) ++ c :: (cutC c s).2.1
      rw [aOb, <- ih h]
theorem aEU {s p : aA} (hs : s.length <= maxLen) : iL s p = some (bif aY s p then s.drop p.length else s) := by
  unfold iL hR
  have h := kF s p
  have h2 : bY s p = some (aY s p) := by
    unfold aP at h
    cases hx : bY s p with
    | none => rw [hx] at h; cases h
    | some y => rw [hx] at h; exact h
  rw [h2, aNR]
  cases hb : aY s p with
  | false => rfl
  | true =>
    have hl : p.length <= s.length := by
      unfold aY at hb
      obtain ⟨t, rfl⟩ := List.isPrefixOf_iff_prefix.1 hb
      simp
    rw [aNP, aNP]
    unfold slc
    rw [d8 (by omega)]
    show some ((s.drop p.length).take (s.length - p.length)) = _
    rw [aOj (by simp)]
def blk (b : UInt8) : Bool := b == 32 || b == 9 || b == 10 || b == 13
def uQ (p : UInt8 -> Bool) : List Bool := (List.range 256).map fun n => p (UInt8.ofNat n)
theorem yR (p : UInt8 -> Bool) : (uQ p).length = 256 := by unfold uQ; simp
theorem aCT (p : UInt8 -> Bool) (b : UInt8) : (uQ p)[b.toNat]? = some (p b) := by
  have := b.toNat_lt
  unfold uQ
  rw [List.getElem?_map, List.getElem?_range (by omega)]
  simp
theorem aCU (p : UInt8 -> Bool) (b : UInt8) : bX (uQ p) (b.toNat : Int) = some (p b) := by
  have := b.toNat_lt
  unfold bX
  rw [d8 (by omega), bV (aCT p b)]; rfl
theorem aCV (p : UInt8 -> Bool) (s : aA) : cR s (uQ p) = some (jF p s) := by
  unfold cR
  rw [aJ0 p s.length rfl (fun x t _ => ?_) s (aN3 _)]
  · rfl
  · unfold eL
    rw [tE, aNP, show idx (x :: t) (0 : Int) = some x from rfl, aNR, aCU, aNR, qU, aNR]
    cases p x <;> rfl
theorem pS {cs : aA} (p : UInt8 -> Bool) (h2 : 2 <= cs.length) (h : bH cs = some (uQ p, true)) (s : aA) : cL s cs = some (jF p s) := by
  unfold cL
  have hc : (cs == ([] : aA)) = false := by cases cs with | nil => simp at h2 | cons => rfl
  have h1 : ((cs.length : Int) == (1 : Int)) = false := by simp; omega
  by_cases h0 : s = []
  · subst h0; rfl
  · have h3 : (s == ([] : aA)) = false := by simpa using h0
    rw [h3, hc, h1]
    rw [show gidx false cs (0 : Int) = some default from rfl, aNR, aNQ, aNQ, h, aNR, d8 (yR p), d8 (by rw [yR]; omega), aNP, aCV]; rfl
theorem aJ6 : bH [32, 9, 10, 13] = some (uQ blk, true) := by
  unfold bH
  exact l5.2 ⟨5, by kernel_rfl⟩
theorem aJ7 : bH [48, 49, 50, 51, 52, 53, 54, 55, 56, 57] = some (uQ fO, true) := by
  unfold bH
  exact l5.2 ⟨11, by kernel_rfl⟩
def skip (s : aA) : aA := jF blk s
theorem qV (s : aA) : (skip s).length <= s.length := aBF blk s
theorem yS (st : aC) : eP st = some ((), aC.mk (skip st.s) st.bad) := by
  unfold eP
  rw [pS blk (by decide) aJ6]; rfl
theorem aJ8 (s p : aA) : bY s p = some (aY s p) := by
  have h := kF s p
  unfold aP at h
  cases hx : bY s p with
  | none => rw [hx] at h; cases h
  | some y => rw [hx] at h; exact h
theorem nX {s p : aA} (h : aY s p = true) : p.length <= s.length := (List.isPrefixOf_iff_prefix.1 h).length_le
theorem jX {α : Type} (l : List α) (n : Nat) (h : n <= l.length) : slc l (n : Int) (l.length : Int) = some (l.drop n) := by
  unfold slc
  rw [d8 (by omega), aNW, aNW, aOj (by simp)]
theorem mF {α : Type} (l : List α) (n : Nat) (h : n <= l.length) : slc l 0 (n : Int) = some (l.take n) := by
  unfold slc
  rw [d8 (by omega)]; simp
theorem nY {α : Type} (l : List α) (a b : Nat) (h : a <= b) (h' : b <= l.length) : slc l (a : Int) (b : Int) = some ((l.take b).drop a) := by
  unfold slc
  rw [d8 (by omega), aNW, aNW, aN7]
def cutP (s p : aA) : aA × Bool := bif aY s p then (s.drop p.length, true) else (s, false)
theorem pT (s p : aA) : dT s p = some (cutP s p) := by
  unfold dT iH cutP
  rw [aJ8, aNR]
  cases hb : aY s p with
  | false => rfl
  | true =>
    rw [aNV, aNQ, jX s p.length (nX hb)]; rfl
def eatB (s p : aA) : Bool := aY (skip s) p
def eatR (s p : aA) : aA := (cutP (skip s) p).1
theorem aGN (st : aC) (p : aA) : a8 st p = some (eatB st.s p, aC.mk (eatR st.s p) st.bad) := by
  unfold a8 eatB eatR
  rw [yS, aNR]
  dsimp only
  rw [pT, aNR]
  unfold cutP
  cases aY (skip st.s) p <;> rfl
theorem dig1i (b : UInt8) : decide ((IntKind.i64.wrap (IntKind.u8.wrap ((b.toNat : Int) - (48 : Int)))) ≥ (10 : Int)) = !fO b := by
  have := pR (p := fun b => decide ((IntKind.i64.wrap (IntKind.u8.wrap ((b.toNat : Int) - (48 : Int)))) ≥ (10 : Int)) == !fO b) (by kernel_rfl) b
  simpa using this
theorem dig2i {b : UInt8} (h : fO b = true) : IntKind.i64.wrap (IntKind.u8.wrap ((b.toNat : Int) - (48 : Int))) = dv b := by
  have := pR (p := fun b => !fO b || (IntKind.i64.wrap (IntKind.u8.wrap ((b.toNat : Int) - (48 : Int))) == dv b)) (by kernel_rfl) b
  rw [h] at this
  simpa using this
theorem aEV {s : aA} (hs : s.length <= maxLen) : fK s 10 (fun x0 => g8 x0) = some (dec s) := by
  unfold fK dec
  cases h0 : (s == ([] : aA)) with
  | true => rfl
  | false =>
    simp only [aNQ]
    have hf : ∀ (l : aA) (n : Int) (long : Bool), j8 aBK aGJ l (n, long) = decR l n long := by
      intro l
      induction l with
      | nil => intro n long; unfold decR; cases long <;> rfl
      | cons x l ih =>
        intro n long
        unfold decR
        rw [aOh, kN, show aBK (n, long) x = (bif fO x then (bif decide (n * 10 + dv x > 1099511627776) then .inl (0, true) else .inl (n * 10 + dv x, long)) else .inr (0, 10)) from rfl]
        cases hx : fO x with
        | false => rfl
        | true =>
          simp only [aNP, aOi]
          unfold over valF
          cases hm : decide (n * 10 + dv x > 1099511627776) with
          | true =>
            simp only [aNP]
            rw [ih]; unfold decR
            simp
          | false =>
            simp only [aNQ]
            rw [ih]; rfl
    have key := lJ (body := eY s 10 (fun x0 => g8 x0)) s (fun i (c : Int × Bool) => (c.1, c.2, (i : Int))) aBK aGJ (fun i c => 0 <= c.1 /\ c.1 <= 1099511627776) (fun i c x hx hi => ?_) (fun c hi => ?_) (0, false) ⟨by simp, by simp⟩
    · rw [show (((0 : Int)), false, (0 : Int)) = ((0 : Int), false, ((0 : Nat) : Int)) from rfl, key, hf]
    · have hlt := aO hx
      unfold eY g8
      dsimp only
      rw [aX hlt, aNP, bV hx, aNR, aNR, dig1i]
      unfold aBK
      cases hd : fO x with
      | false => exact .inr ⟨_, rfl, rfl⟩
      | true =>
        have hdv := aJ4 hd
        rw [dig2i hd, wrap_i64 (show _ <= c.1 * 10 by omega) (by omega), wrap_i64 (show _ <= c.1 * 10 + dv x by omega) (by omega), bM hlt hs]
        simp only [aNV, aNQ, aNP]
        cases hm : decide (c.1 * 10 + dv x > 1099511627776) with
        | true => exact .inl ⟨(0, true), rfl, rfl, by simp, by simp⟩
        | false => exact .inl ⟨_, rfl, rfl, by show 0 <= c.1 * 10 + dv x; omega, by show c.1 * 10 + dv x <= _; simpa using hm⟩
    · unfold eY aGJ
      dsimp only
      rw [bP]
      cases c.2 <;> rfl
theorem sH (s : aA) : 0 <= (dec s).1 /\ (dec s).1 <= 1099511627776 := by
  unfold dec
  cases h0 : (s == ([] : aA)) with
  | true => exact ⟨Int.le_refl _, (by decide : (0 : Int) <= 1099511627776)⟩
  | false =>
    rw [aNQ]
    unfold decR
    cases h1 : s.all fO with
    | false => exact ⟨Int.le_refl _, (by decide : (0 : Int) <= 1099511627776)⟩
    | true =>
      rw [aNP]
      cases h2 : (false || over s 0) with
      | true => exact ⟨Int.le_refl _, (by decide : (0 : Int) <= 1099511627776)⟩
      | false =>
        rw [aNQ]
        exact aA1 s 0 (by decide) (by decide) h1 (by simpa using h2)
def sgn (s : aA) : Int × Int := bif aY s [45] then (-(dec (s.drop 1)).1, (dec (s.drop 1)).2) else dec s
theorem sI {s : aA} (hs : s.length <= maxLen) : iM s = some (sgn s) := by
  unfold iM sgn
  rw [pT, aNR]
  unfold cutP
  cases hb : aY s [45] with
  | false =>
    show ((fK s 10 _).bind _) = _
    rw [aEV hs]; rfl
  | true =>
    show ((fK (s.drop 1) 10 _).bind _) = _
    rw [aEV (by simp; omega), aNR]
    have := sH (s.drop 1)
    show some (IntKind.i64.wrap (0 - (dec (s.drop 1)).1), _) = _
    rw [wrap_i64 (by omega) (by omega), Int.zero_sub]; rfl
theorem pre1 (c : UInt8) (s : aA) : aY s [c] = (s.head? == some c) := by
  cases s with
  | nil => rfl
  | cons x t =>
    show (c == x && _) = _
    rw [show List.isPrefixOf ([] : aA) t = true by cases t <;> rfl, Bool.and_true]
    show (c == x) = (x == c)
    exact Bool.eq_iff_iff.2 ⟨fun h => by rw [eq_of_beq h]; exact beq_self_eq_true _, fun h => by rw [eq_of_beq h]; exact beq_self_eq_true _⟩
theorem aCW {s : aA} (hs : s.length <= maxLen) : gG s = some (sgn s) := by
  unfold gG sgn
  rw [pre1]
  cases s with
  | nil => rfl
  | cons x t =>
    have e : decide ((((x :: t).length : Nat) : Int) > (0 : Int)) = true := tE x t
    rw [e, uP rfl, show idx (x :: t) (0 : Int) = some x from rfl, aNR, aNP]
    have e2 : ((x.toNat : Int) == (45 : Int)) = ((x :: t).head? == some 45) := qT (p := fun x => ((x.toNat : Int) == (45 : Int))) (q := fun x => (some x == some 45)) (by kernel_rfl) x
    rw [e2]
    have h1 := sH t
    have h2 := sH (x :: t)
    cases hb : ((x :: t).head? == some 45) with
    | true =>
      rw [aNP, qU, aNR, aGK (by rw [aNT] at hs; omega), aNR, wrap_i64 (n := (dec t).1) (by omega) (by omega), wrap_i64 (by omega) (by omega), Int.zero_sub]; rfl
    | false =>
      rw [aNQ, aGK hs, aNR, wrap_i64 (by omega) (by omega)]; rfl
def tw (p : UInt8 -> Bool) (s : aA) : aA := s.takeWhile p
def dw (p : UInt8 -> Bool) (s : aA) : aA := s.dropWhile p
theorem aFP (p : UInt8 -> Bool) (s : aA) : tw p s ++ dw p s = s := List.takeWhile_append_dropWhile
theorem nM (p : UInt8 -> Bool) (s : aA) : (tw p s).length + (dw p s).length = s.length := by
  have := congrArg List.length (aFP p s)
  rwa [aOa] at this
theorem oU (p : UInt8 -> Bool) (s : aA) : s.take (tw p s).length = tw p s := by
  conv => lhs; arg 2; rw [<- aFP p s]
  simp
theorem p5 (p : UInt8 -> Bool) (s : aA) : s.drop (tw p s).length = dw p s := by
  conv => lhs; arg 2; rw [<- aFP p s]
  simp
theorem yT (p : UInt8 -> Bool) (x : UInt8) (s : aA) : tw p (x :: s) = bif p x then x :: tw p s else [] := by
  unfold tw; rw [List.takeWhile_cons]; cases p x <;> rfl
theorem yU (p : UInt8 -> Bool) (x : UInt8) (s : aA) : dw p (x :: s) = bif p x then dw p s else x :: s := by
  unfold dw; rw [aN9]; cases p x <;> rfl
theorem oV {ρ : Type} {s : aA} (p : UInt8 -> Bool) {body : Int -> Option (Int ⊕ ρ)} (fin : Nat -> ρ) (a : Nat) (ha : a <= s.length)
    (h1 : ∀ (i : Nat) (x : UInt8), s[i]? = some x -> p x = true -> body (i : Int) = some (.inl ((i + 1 : Nat) : Int)))
    (h2 : ∀ (i : Nat), i <= s.length -> (∀ x, s[i]? = some x -> p x = false) -> body (i : Int) = some (.inr (fin i))) : aR body (a : Int) = some (fin (a + (tw p (s.drop a)).length)) := by
  have key : ∀ (m a : Nat), m + a = s.length -> aR body (a : Int) = some (fin (a + (tw p (s.drop a)).length)) := by
    intro m
    induction m with
    | zero =>
      intro a hm
      have : a = s.length := by omega
      subst this
      rw [aS, h2 _ (aN3 _) (fun x hx => by rw [List.getElem?_eq_none (aN3 _)] at hx; cases hx), aOl]
      rfl
    | succ m ih =>
      intro a hm
      have hlt : a < s.length := by omega
      have hd := aNX hlt
      have hx := aNS hlt
      rw [aS, hd, yT]
      cases hp : p s[a] with
      | true =>
        rw [h1 a _ hx hp]
        show aR body ((a + 1 : Nat) : Int) = _
        rw [ih (a + 1) (by omega), aNP, aNT]
        congr 2; omega
      | false =>
        rw [h2 a (by omega) (fun x hx' => by rw [hx] at hx'; injection hx' with hx'; rw [<- hx']; exact hp)]
        rfl
  exact key (s.length - a) a (by omega)
theorem aEW {s : aA} {f : Int -> Option Bool} (p : UInt8 -> Bool) (hf : ∀ b : UInt8, f (b.toNat : Int) = some (p b)) (hs : s.length <= maxLen) : kK s f = some ((tw p s).length : Int) := by
  unfold kK
  rw [show (0 : Int) = ((0 : Nat) : Int) from rfl, oV p (body := mY s f) (fun n => (n : Int)) 0 (aN4 _) (fun i x hx hp => ?_) (fun i hi hx => ?_), aNR, aN0, Nat.zero_add]
  · unfold mY
    have hlt := aO hx
    rw [aX hlt, uP rfl, bV hx, aNR, eU rfl, hf, aNR, aNP, hp, aNP, bM hlt hs]
  · unfold mY
    by_cases hlt : i < s.length
    · have hx' := aNS hlt
      rw [aX hlt, uP rfl, bV hx', aNR, eU rfl, hf, aNR, aNP, hx _ hx', aNQ]
    · have : i = s.length := by omega
      subst this
      rw [bP]; rfl
def letB (b : UInt8) : Bool := (b ≥ 65 && b <= 90) || b == 95
theorem aCX (b : UInt8) : lS (b.toNat : Int) = some (letB b) := by
  unfold lS
  exact congrArg some (qT (p := fun b => bif (bif (decide ((b.toNat : Int) ≥ (65 : Int))) then (decide ((b.toNat : Int) <= (90 : Int))) else false) then true else ((b.toNat : Int) == (95 : Int))) (q := letB) (by kernel_rfl) b)
def kBad : aA := [125, 41, 124, 39, 10, 13]
def oBad : aA := [39, 41, 124, 10, 13]
def nB (bad : aA) (b : UInt8) : Bool := !(bad.contains b)
theorem aJE (bad : aA) (b : UInt8) : f9 (b.toNat : Int) bad = some (nB bad b) := by
  unfold f9 nB
  rw [w9, aNR, aAY, <- vL]
  congr 1
  by_cases h : Lib.indexByte bad b < 0
  · rw [decide_eq_true h, decide_eq_false (by omega)]; rfl
  · rw [decide_eq_false h, decide_eq_true (by omega)]; rfl
section
variable (val : aA -> aA -> aA × Bool)
def endS (n k o : aA) (len : Nat) (r : aA) : aA × Int :=
  bif aY r [41] then (bif (val n k).2 then (val n k).1 else o, (len : Int) - (r.length : Int) + 1) else ([], 0)
def othS (n k : aA) (len : Nat) (r : aA) : aA × Int :=
  bif aY r [124, 39] then (bif (cutC 39 (r.drop 2)).2.2 then endS val n k (cutC 39 (r.drop 2)).1 len (cutC 39 (r.drop 2)).2.1 else ([], 0))
  else bif aY r [124] then endS val n k (tw (nB oBad) (r.drop 1)) len (dw (nB oBad) (r.drop 1))
  else endS val n k [] len r
def refS (s : aA) : aA × Int :=
  bif aY s [36, 40] && !(tw letB (s.drop 2) == ([] : aA)) then
    (bif aY (dw letB (s.drop 2)) [123] then
      (bif !(tw (nB kBad) ((dw letB (s.drop 2)).drop 1) == ([] : aA)) && aY (dw (nB kBad) ((dw letB (s.drop 2)).drop 1)) [125] then
        othS val (tw letB (s.drop 2)) (tw (nB kBad) ((dw letB (s.drop 2)).drop 1)) s.length ((dw (nB kBad) ((dw letB (s.drop 2)).drop 1)).drop 1)
      else ([], 0))
    else othS val (tw letB (s.drop 2)) [] s.length (dw letB (s.drop 2)))
  else ([], 0)
end
noncomputable def endI (a0 : aL) (a1 n k o r : aA) : Option (aA × Int) :=
  (aP r ([41] : aA)).bind fun x19 =>
  bif (!x19) then
    (eX).bind fun x20 =>
    some ((x20.1), (x20.2))
  else
    (iC a0 n k).bind fun x21 =>
    bif (!(x21.2)) then
      some (o, (IntKind.i64.wrap ((IntKind.i64.wrap ((a1.length : Int) - (r.length : Int))) + (1 : Int))))
    else
      some ((x21.1), (IntKind.i64.wrap ((IntKind.i64.wrap ((a1.length : Int) - (r.length : Int))) + (1 : Int))))
noncomputable def othI (a0 : aL) (a1 n k r : aA) : Option (aA × Int) :=
  (aP r ([124, 39] : aA)).bind fun x15 =>
  bif x15 then
    (slc r (2 : Int) (r.length : Int)).bind fun x16 =>
    (dO x16 ([39] : aA)).bind fun x17 =>
    bif (!(x17.2.2)) then
      (eX).bind fun x18 =>
      some ((x18.1), (x18.2))
    else
      endI a0 a1 n k x17.1 x17.2.1
  else
    (aP r ([124] : aA)).bind fun x22 =>
    bif x22 then
      (slc r (1 : Int) (r.length : Int)).bind fun x23 =>
      (qS ([39, 41, 124, 10, 13] : aA)).bind fun x24 =>
      (kK x23 (fun x0 => f9 x0 x24)).bind fun x25 =>
      (slc r (1 : Int) (IntKind.i64.wrap ((1 : Int) + x25))).bind fun x26 =>
      (slc r (IntKind.i64.wrap ((1 : Int) + x25)) (r.length : Int)).bind fun x27 =>
      endI a0 a1 n k x26 x27
    else
      endI a0 a1 n k [] r
theorem aJ9 (a0 : aL) (a1 : aA) : mB a0 a1 =
  (dT a1 ([36, 40] : aA)).bind fun x1 =>
  (kK (x1.1) (fun x0 => lS x0)).bind fun x2 =>
  bif (bif (!(x1.2)) then true else (x2 == (0 : Int))) then
    (eX).bind fun x3 =>
    some ((x3.1), (x3.2))
  else
    (slc (x1.1) 0 x2).bind fun x4 =>
    (slc (x1.1) x2 ((x1.1).length : Int)).bind fun x5 =>
    (aP x5 ([123] : aA)).bind fun x6 =>
    bif x6 then
      (slc x5 (1 : Int) (x5.length : Int)).bind fun x7 =>
      (qS ([125, 41, 124, 39, 10, 13] : aA)).bind fun x8 =>
      (kK x7 (fun x0 => f9 x0 x8)).bind fun x9 =>
      (slc x5 (1 : Int) (IntKind.i64.wrap ((1 : Int) + x9))).bind fun x10 =>
      (gslc (!(x9 == (0 : Int))) x5 (IntKind.i64.wrap ((1 : Int) + x9)) (x5.length : Int)).bind fun x11 =>
      (f6 (!(x9 == (0 : Int))) (aP x11 ([125] : aA))).bind fun x12 =>
      bif (bif (x9 == (0 : Int)) then true else (!x12)) then
        (eX).bind fun x13 =>
        some ((x13.1), (x13.2))
      else
        (slc x5 (IntKind.i64.wrap ((2 : Int) + x9)) (x5.length : Int)).bind fun x14 =>
        othI a0 a1 x4 x10 x14
    else othI a0 a1 x4 [] x5 := rfl
theorem lenz {α : Type} (l : List α) : (((l.length : Nat) : Int) == (0 : Int)) = l.isEmpty := by
  cases l with
  | nil => rfl
  | cons x t => rw [aNT]; simp; omega
theorem oW (l : aA) : l.isEmpty = (l == ([] : aA)) := by cases l <;> rfl
section
variable {a0 : aL} {a1 : aA} {val : aA -> aA -> aA × Bool} (hs : a1.length <= maxLen) (hv : ∀ n k : aA, n.length <= a1.length -> k.length <= a1.length -> iC a0 n k = some (val n k))
include hs hv
theorem aD2 {n k o r : aA} (hn : n.length <= a1.length) (hk : k.length <= a1.length) (hr : r.length <= a1.length) : endI a0 a1 n k o r = some (endS val n k o a1.length r) := by
  unfold endI endS
  rw [kF, aNR]
  cases hb : aY r [41] with
  | false => rfl
  | true =>
    have h1 := nX hb
    have h1 : 1 <= r.length := h1
    rw [aNV, aNQ, hv n k hn hk, aNR, aNP]
    unfold maxLen at hs
    have e : IntKind.i64.wrap ((IntKind.i64.wrap ((a1.length : Int) - (r.length : Int))) + (1 : Int)) = (a1.length : Int) - (r.length : Int) + 1 := by
      rw [wrap_i64 (n := (a1.length : Int) - (r.length : Int)) (by omega) (by omega), wrap_i64 (by omega) (by omega)]
    rw [e]
    cases (val n k).2 <;> rfl
theorem aGO {n k r : aA} (hn : n.length <= a1.length) (hk : k.length <= a1.length) (hr : r.length <= a1.length) : othI a0 a1 n k r = some (othS val n k a1.length r) := by
  unfold othI othS
  rw [kF, aNR]
  cases hb : aY r [124, 39] with
  | true =>
    have h2 : 2 <= r.length := nX hb
    rw [aNP, aNP, show (2 : Int) = ((2 : Nat) : Int) from rfl, jX r 2 h2, aNR, yQ 39 (by simp; omega), aNR]
    cases hc : (cutC 39 (r.drop 2)).2.2 with
    | false => rfl
    | true =>
      have := (wK 39 (r.drop 2)).2
      rw [aNV, aNQ, aNP, aD2 hs hv hn hk (by simp at this; omega)]
  | false =>
    rw [aNQ, aNQ, kF, aNR]
    cases hb1 : aY r [124] with
    | false => rw [aNQ, aNQ, aD2 hs hv hn hk hr]
    | true =>
      have h1 : 1 <= r.length := nX hb1
      have hl := nM (nB oBad) (r.drop 1)
      rw [aNU] at hl
      have e : IntKind.i64.wrap ((1 : Int) + ((tw (nB oBad) (r.drop 1)).length : Int)) = ((1 + (tw (nB oBad) (r.drop 1)).length : Nat) : Int) := by
        unfold maxLen at hs
        rw [wrap_i64 (by omega) (by omega)]; omega
      rw [aNP, aNP, show slc r (1 : Int) (r.length : Int) = _ from jX r 1 h1, aNR]
      show ((kK (r.drop 1) (fun x0 => f9 x0 oBad)).bind _) = _
      rw [aEW (nB oBad) (aJE oBad) (by simp; omega), aNR, e, show slc r (1 : Int) ((1 + (tw (nB oBad) (r.drop 1)).length : Nat) : Int) = _ from nY r 1 _ (by omega) (by omega), aNR, jX r _ (by omega), aNR]
      have e3 : (r.take (1 + (tw (nB oBad) (r.drop 1)).length)).drop 1 = tw (nB oBad) (r.drop 1) := by
        rw [aN7, aN5, oU]
      have e4 : r.drop (1 + (tw (nB oBad) (r.drop 1)).length) = dw (nB oBad) (r.drop 1) := by
        rw [<- aN2, p5]
      rw [e3, e4, aD2 hs hv hn hk (by omega)]
theorem Ref_eq : mB a0 a1 = some (refS val a1) := by
  rw [aJ9, pT, aNR]
  unfold cutP refS
  cases hb : aY a1 [36, 40] with
  | false =>
    rw [aNQ, aEW letB aCX hs]; rfl
  | true =>
    have h2 : 2 <= a1.length := nX hb
    rw [aNP, aOi]
    dsimp only
    rw [show ([36, 40] : aA).length = 2 from rfl, aEW letB aCX (by simp; omega), aNR, lenz, oW]
    have hl := nM letB (a1.drop 2)
    rw [aNU] at hl
    cases he : (tw letB (a1.drop 2) == ([] : aA)) with
    | true => rfl
    | false =>
      rw [aNV, aNY, aNQ, aNQ, aNP, mF _ _ (by rw [aNU]; omega), aNR, jX _ _ (by rw [aNU]; omega), aNR, oU, p5, kF, aNR]
      cases hb1 : aY (dw letB (a1.drop 2)) [123] with
      | false => rw [aNQ, aNQ, aGO hs hv (by omega) (aN4 _) (by omega)]
      | true =>
        have h3 : 1 <= (dw letB (a1.drop 2)).length := nX hb1
        generalize dw letB (a1.drop 2) = r at *
        have hl2 := nM (nB kBad) (r.drop 1)
        rw [aNU] at hl2
        have e : IntKind.i64.wrap ((1 : Int) + ((tw (nB kBad) (r.drop 1)).length : Int)) = ((1 + (tw (nB kBad) (r.drop 1)).length : Nat) : Int) := by
          unfold maxLen at hs
          rw [wrap_i64 (by omega) (by omega)]; omega
        rw [aNP, aNP, show slc r (1 : Int) (r.length : Int) = _ from jX r 1 h3, aNR]
        show ((kK (r.drop 1) (fun x0 => f9 x0 kBad)).bind _) = _
        rw [aEW (nB kBad) (aJE kBad) (by simp; omega), aNR, lenz, oW, e, show slc r (1 : Int) ((1 + (tw (nB kBad) (r.drop 1)).length : Nat) : Int) = _ from nY r 1 _ (by omega) (by omega), aNR]
        have e3 : (r.take (1 + (tw (nB kBad) (r.drop 1)).length)).drop 1 = tw (nB kBad) (r.drop 1) := by
          rw [aN7, aN5, oU]
        have e4 : r.drop (1 + (tw (nB kBad) (r.drop 1)).length) = dw (nB kBad) (r.drop 1) := by
          rw [<- aN2, p5]
        have e5 : gslc (!(tw (nB kBad) (r.drop 1) == ([] : aA))) r ((1 + (tw (nB kBad) (r.drop 1)).length : Nat) : Int) (r.length : Int) = some (dw (nB kBad) (r.drop 1)) := by
          unfold gslc
          rw [d8 (fun _ => by omega), aNW, aNW, aOj (by simp), e4]
        rw [e3, e5, aNR]
        cases hk : (tw (nB kBad) (r.drop 1) == ([] : aA)) with
        | true => rfl
        | false =>
          rw [aNY, eU rfl, kF, aNR, aNQ, aOi]
          cases hb4 : aY (dw (nB kBad) (r.drop 1)) [125] with
          | false => rfl
          | true =>
            have h5 : 1 <= (dw (nB kBad) (r.drop 1)).length := nX hb4
            have e6 : IntKind.i64.wrap ((2 : Int) + ((tw (nB kBad) (r.drop 1)).length : Int)) = ((2 + (tw (nB kBad) (r.drop 1)).length : Nat) : Int) := by
              unfold maxLen at hs
              rw [wrap_i64 (by omega) (by omega)]; omega
            have e7 : r.drop (2 + (tw (nB kBad) (r.drop 1)).length) = (dw (nB kBad) (r.drop 1)).drop 1 := by
              rw [<- p5, aN2, aN2]; congr 1; omega
            rw [aNV, aNQ, aNP, e6, jX r _ (by omega), aNR, e7, aGO hs hv (by omega) (by omega) (by rw [aNU]; omega)]
end
def hd (r : aA) : Int := match r with
  | [] => 0
  | b :: _ => (b.toNat : Int)
theorem aGP (s : aA) (k : Nat) : hd (s.drop k) = match s[k]? with | some b => (b.toNat : Int) | none => 0 := by
  rcases aOd k s.length with h | h
  · rw [aNX h, aNS h]; rfl
  · rw [aN8 h, List.getElem?_eq_none h]; rfl
theorem aBL (s : aA) (k : Nat) : aG s (k : Int) = some (hd (s.drop k)) := by
  unfold aG
  rw [aGP]
  rcases aOd k s.length with h | h
  · rw [aX h, aNP, bV (aNS h), aNS h]; rfl
  · rw [show decide ((k : Int) < (s.length : Int)) = false by simp; omega, List.getElem?_eq_none h]; rfl
theorem uR {c : UInt8} (h : c.toNat ≠ 0) (r : aA) : (hd r == (c.toNat : Int)) = aY r [c] := by
  rw [pre1]
  cases r with
  | nil =>
    show ((0 : Int) == (c.toNat : Int)) = false
    simp; omega
  | cons b t =>
    show ((b.toNat : Int) == (c.toNat : Int)) = (b == c)
    rw [aN1, beq_iff_eq, beq_iff_eq]
    exact ⟨fun h => UInt8.toNat_inj.1 (by omega), fun h => by rw [h]⟩
theorem kP (a b : UInt8) (r : aA) : aY r [a, b] = (aY r [a] && aY (r.drop 1) [b]) := by
  cases r with
  | nil => rfl
  | cons x t =>
    rw [pre1, pre1]
    cases t with
    | nil =>
      show (a == x && false) = _
      show _ = (_ && false)
      simp
    | cons y u =>
      show (a == x && (b == y && List.isPrefixOf [] u)) = ((x == a) && (y == b))
      rw [show List.isPrefixOf ([] : aA) u = true by cases u <;> rfl, Bool.and_true, aOn (a := a), aOn (a := b)]
theorem aEX {bad : aA} (s : aA) (i : Nat) (x : UInt8) (hx : s[i]? = some x) (hb : bad.length <= maxLen) (hs : s.length <= maxLen) :
    aR (eD s bad (i : Int)) (0 : Int) = some (bif bad.contains x then .inr (i : Int) else .inl ((i + 1 : Nat) : Int)) := by
  have h := aBJ (l := bad) hb (body := eD s bad (i : Int)) (fun y => x == y) (.inr (i : Int)) (.inl ((i + 1 : Nat) : Int)) (fun k y hy => ?_) ?_
  · rw [h]
    congr 1
    have : bad.any (fun y => x == y) = bad.contains x := by
      rw [List.contains_eq_any_beq]
    rw [this]
  · unfold eD
    rw [aX (aO hy), aNP, bV hx, aNR, bV hy, aNR, bM (aO hy) hb]
    have e : ((x.toNat : Int) == (y.toNat : Int)) = (x == y) := by
      rw [aN1, beq_iff_eq, beq_iff_eq]
      exact ⟨fun h => UInt8.toNat_inj.1 (by omega), fun h => by rw [h]⟩
    rw [e]
    cases (x == y) <;> rfl
  · unfold eD
    rw [bP, aNQ, bM (aO hx) hs]
theorem aKa {s : aA} (bad : aA) (k : Nat) (hb : bad.length <= maxLen) (hs : s.length <= maxLen) (hk : k <= s.length) : cA s (k : Int) bad = some ((k + (tw (nB bad) (s.drop k)).length : Nat) : Int) := by
  unfold cA
  rw [oV (nB bad) (body := fE s bad) (fun n => (n : Int)) k hk (fun i x hx hp => ?_) (fun i hi hx => ?_)]
  · unfold fE
    rw [aX (aO hx), aNP, aEX s i x hx hb hs]
    unfold nB at hp
    rw [aOo] at hp
    rw [hp]; rfl
  · unfold fE
    rcases aOd i s.length with h | h
    · have hx' := aNS h
      have hp := hx _ hx'
      unfold nB at hp
      rw [Bool.not_eq_false'] at hp
      rw [aX h, aNP, aEX s i _ hx' hb hs, hp]; rfl
    · have : i = s.length := by omega
      subst this
      rw [bP]; rfl
theorem aKb (b : UInt8) : (bif (bif (decide ((b.toNat : Int) ≥ (65 : Int))) then (decide ((b.toNat : Int) <= (90 : Int))) else false) then true else ((b.toNat : Int) == (95 : Int))) = letB b :=
  qT (p := fun b => bif (bif (decide ((b.toNat : Int) ≥ (65 : Int))) then (decide ((b.toNat : Int) <= (90 : Int))) else false) then true else ((b.toNat : Int) == (95 : Int))) (q := letB) (by kernel_rfl) b
theorem refLet {s : aA} (hs : s.length <= maxLen) (k : Nat) (hk : k <= s.length) : aR (bN s) (k : Int) = some ((k + (tw letB (s.drop k)).length : Nat) : Int) := by
  have body : ∀ i : Nat, bN s (i : Int) = bif (match s[i]? with | some b => letB b | none => false) then some (.inl (IntKind.i64.wrap ((i : Int) + (1 : Int)))) else some (.inr (i : Int)) := by
    intro i
    unfold bN
    rw [aBL, aGP, aNR]
    cases hx : s[i]? with
    | none => rfl
    | some b =>
      dsimp only
      rw [<- aKb b]
      cases h1 : decide ((b.toNat : Int) ≥ (65 : Int)) with
      | true =>
        rw [eU rfl, aNR, aNP]
        cases h2 : decide ((b.toNat : Int) <= (90 : Int)) with
        | true => rfl
        | false => rw [aNQ, aNY, eU rfl, aNR]; rfl
      | false =>
        rw [aBE rfl, aNR, aNQ, aNY, eU rfl, aNR]; rfl
  rw [oV letB (body := bN s) (fun n => (n : Int)) k hk (fun i x hx hp => ?_) (fun i hi hx => ?_)]
  · rw [body, hx]
    dsimp only
    rw [hp, aNP, bM (aO hx) hs]
  · rw [body]
    cases hx' : s[i]? with
    | none => rfl
    | some b =>
      dsimp only
      rw [hx b hx', aNQ]
noncomputable def endJ (a0 : aL) (a1 n k o : aA) (i : Int) : Option (aA × Int) :=
  (aG a1 i).bind fun x17 =>
  bif (x17 != (41 : Int)) then
    some (([] : aA), (0 : Int))
  else
    (bS a0 n k).bind fun x18 =>
    bif x18.2 then
      some ((x18.1), (IntKind.i64.wrap (i + (1 : Int))))
    else
      some (o, (IntKind.i64.wrap (i + (1 : Int))))
noncomputable def othJ (a0 : aL) (a1 n k : aA) (i : Int) : Option (aA × Int) :=
  (aG a1 i).bind fun x13 =>
  (f6 (x13 == (124 : Int)) (aG a1 (IntKind.i64.wrap (i + (1 : Int))))).bind fun x14 =>
  bif (bif (x13 == (124 : Int)) then (x14 == (39 : Int)) else false) then
    (cA a1 (IntKind.i64.wrap (i + (2 : Int))) ([39] : aA)).bind fun x15 =>
    bif (x15 == (a1.length : Int)) then
      some (([] : aA), (0 : Int))
    else
      (slc a1 (IntKind.i64.wrap (i + (2 : Int))) x15).bind fun x16 =>
      endJ a0 a1 n k x16 (IntKind.i64.wrap (x15 + (1 : Int)))
  else
    (aG a1 i).bind fun x19 =>
    bif (x19 == (124 : Int)) then
      (cA a1 (IntKind.i64.wrap (i + (1 : Int))) ([39, 41, 124, 10, 13] : aA)).bind fun x20 =>
      (slc a1 (IntKind.i64.wrap (i + (1 : Int))) x20).bind fun x21 =>
      endJ a0 a1 n k x21 x20
    else
      endJ a0 a1 n k [] i
theorem aFQ (a0 : aL) (a1 : aA) : cN a0 a1 =
  (aR (bN a1) (2 : Int) : Option Int).bind fun j1 =>
  (aG a1 (0 : Int)).bind fun x6 =>
  (f6 (!(x6 != (36 : Int))) (aG a1 (1 : Int))).bind fun x7 =>
  bif (bif (bif (x6 != (36 : Int)) then true else (x7 != (40 : Int))) then true else (j1 == (2 : Int))) then
    some (([] : aA), (0 : Int))
  else
    (slc a1 (2 : Int) j1).bind fun x8 =>
    (aG a1 j1).bind fun x9 =>
    bif (x9 == (123 : Int)) then
      (cA a1 (IntKind.i64.wrap (j1 + (1 : Int))) ([125, 41, 124, 39, 10, 13] : aA)).bind fun x10 =>
      (f6 (!(x10 == (IntKind.i64.wrap (j1 + (1 : Int))))) (aG a1 x10)).bind fun x11 =>
      bif (bif (x10 == (IntKind.i64.wrap (j1 + (1 : Int)))) then true else (x11 != (125 : Int))) then
        some (([] : aA), (0 : Int))
      else
        (slc a1 (IntKind.i64.wrap (j1 + (1 : Int))) x10).bind fun x12 =>
        othJ a0 a1 x8 x12 (IntKind.i64.wrap (x10 + (1 : Int)))
    else
      othJ a0 a1 x8 [] j1 := rfl
section
variable {a0 : aL} {a1 : aA} {val : aA -> aA -> aA × Bool} (hs : a1.length <= maxLen) (hv : ∀ n k : aA, n.length <= a1.length -> k.length <= a1.length -> bS a0 n k = some (val n k))
include hs hv
theorem aD3 {n k o : aA} (hn : n.length <= a1.length) (hk : k.length <= a1.length) (i : Nat) (hi : i <= a1.length) : endJ a0 a1 n k o (i : Int) = some (endS val n k o a1.length (a1.drop i)) := by
  unfold endJ endS
  rw [aBL, aNR]
  have e := uR (c := 41) (by decide) (a1.drop i)
  have e : (hd (a1.drop i) == (41 : Int)) = aY (a1.drop i) [41] := e
  rw [show (hd (a1.drop i) != (41 : Int)) = !aY (a1.drop i) [41] by rw [<- e]; rfl]
  cases hb : aY (a1.drop i) [41] with
  | false => rfl
  | true =>
    have h1 : 1 <= (a1.drop i).length := nX hb
    rw [aNU] at h1
    rw [aNV, aNQ, hv n k hn hk, aNR, aNP]
    unfold maxLen at hs
    have e : IntKind.i64.wrap ((i : Int) + (1 : Int)) = (a1.length : Int) - ((a1.drop i).length : Int) + 1 := by
      rw [wrap_i64 (by omega) (by omega), aNU]; omega
    rw [e]
    cases (val n k).2 <;> rfl
omit hs hv in
theorem aEY (c : UInt8) : ∀ (s : aA), cutC c s = bif dw (nB [c]) s == ([] : aA) then (s, [], false) else (tw (nB [c]) s, (dw (nB [c]) s).drop 1, true)
  | [] => rfl
  | x :: s => by
    rw [cutC, yT, yU, aEY c s]
    have e : nB [c] x = !(x == c) := by
      unfold nB
      simp only [aOf, List.contains_nil, Bool.or_false]
    rw [e]
    cases (x == c) with
    | true => rfl
    | false =>
      rw [aNY, aNP, aNP, aNQ]
      cases hh : (dw (nB [c]) s == ([] : aA)) with
      | true =>
        rw [aNP, aNP]
      | false => rfl
theorem aGQ {n k : aA} (hn : n.length <= a1.length) (hk : k.length <= a1.length) (i : Nat) (hi : i <= a1.length) : othJ a0 a1 n k (i : Int) = some (othS val n k a1.length (a1.drop i)) := by
  unfold othJ othS
  rw [aBL, aNR, kP]
  have e : (hd (a1.drop i) == (124 : Int)) = aY (a1.drop i) [124] := uR (c := 124) (by decide) (a1.drop i)
  rw [e]
  have hl := nM (nB oBad) ((a1.drop i).drop 1)
  have hl2 := nM (nB [39]) ((a1.drop i).drop 2)
  rw [aNU, aNU] at hl hl2
  unfold maxLen at hs
  cases hb : aY (a1.drop i) [124] with
  | false =>
    rw [aBE rfl, aNR, aNQ, aNQ, aNR, e, hb, aNQ, Bool.false_and, aNQ, aNQ, aD3 hs hv hn hk i hi]
  | true =>
    have h1 : 1 <= (a1.drop i).length := nX hb
    rw [aNU] at h1
    have w1 : IntKind.i64.wrap ((i : Int) + (1 : Int)) = ((i + 1 : Nat) : Int) := by rw [wrap_i64 (by omega) (by omega)]; omega
    rw [eU rfl, w1, aBL, aNR, aNP, aOi, aN2]
    have e2 : (hd (a1.drop (i + 1)) == (39 : Int)) = aY (a1.drop (i + 1)) [39] := uR (c := 39) (by decide) _
    rw [e2]
    cases hb2 : aY (a1.drop (i + 1)) [39] with
    | true =>
      have h2 : 1 <= (a1.drop (i + 1)).length := nX hb2
      rw [aNU] at h2
      have w2 : IntKind.i64.wrap ((i : Int) + (2 : Int)) = ((i + 2 : Nat) : Int) := by rw [wrap_i64 (by omega) (by omega)]; omega
      rw [aNP, aNP, w2, aKa [39] (i + 2) (by unfold maxLen; simp) (by unfold maxLen; omega) (by omega), aNR, aN2, aEY]
      rw [aN2] at hl2
      have ee : ((((i + 2 + (tw (nB [39]) (a1.drop (i + 2))).length : Nat) : Int)) == (a1.length : Int)) = (dw (nB [39]) (a1.drop (i + 2)) == ([] : aA)) := by
        rw [<- oW, <- lenz, aN1, beq_iff_eq, beq_iff_eq]
        omega
      rw [ee]
      cases hd2 : (dw (nB [39]) (a1.drop (i + 2)) == ([] : aA)) with
      | true => rfl
      | false =>
        have h3 : 1 <= (dw (nB [39]) (a1.drop (i + 2))).length := by
          cases hz : dw (nB [39]) (a1.drop (i + 2)) with
          | nil => rw [hz] at hd2; cases hd2
          | cons => simp
        rw [aNQ, aNQ, aNP, nY a1 (i + 2) _ (by omega) (by omega), aNR, aN7]
        have w3 : IntKind.i64.wrap ((((i + 2 + (tw (nB [39]) (a1.drop (i + 2))).length : Nat) : Int)) + (1 : Int)) = ((i + 2 + (tw (nB [39]) (a1.drop (i + 2))).length + 1 : Nat) : Int) := by
          rw [wrap_i64 (by omega) (by omega)]; omega
        rw [w3, aD3 hs hv hn hk _ (by omega), aN5, oU]
        congr 2
        rw [<- p5, aN2, aN2]; congr 1
    | false =>
      rw [aNQ, aNR, e, hb, aNP, aNQ, aNP]
      rw [show cA a1 ((i + 1 : Nat) : Int) ([39, 41, 124, 10, 13] : aA) = _ from aKa oBad (i + 1) (by unfold maxLen oBad; simp) (by unfold maxLen; omega) (by omega), aNR]
      rw [aN2] at hl
      rw [nY a1 (i + 1) _ (by omega) (by omega), aNR, aN7, aN5, oU, aD3 hs hv hn hk _ (by omega)]
      congr 2
      rw [<- p5, aN2]
theorem aGR : cN a0 a1 = some (refS val a1) := by
  rw [aFQ]
  unfold refS
  rw [kP]
  have e0 : (hd a1 == (36 : Int)) = aY a1 [36] := uR (c := 36) (by decide) a1
  have e1 : (hd (a1.drop 1) == (40 : Int)) = aY (a1.drop 1) [40] := uR (c := 40) (by decide) _
  have hat0 : aG a1 (0 : Int) = some (hd a1) := aBL a1 0
  have hat1 : aG a1 (1 : Int) = some (hd (a1.drop 1)) := aBL a1 1
  rcases aOd a1.length 2 with hlt | hge
  · -- too short: the loop ends at once
    have hl : aR (bN a1) (2 : Int) = some (2 : Int) := by
      rw [aS]
      have : bN a1 (2 : Int) = some (.inr (2 : Int)) := by
        unfold bN
        rw [show aG a1 (2 : Int) = some (0 : Int) by
          rw [show aG a1 (2 : Int) = _ from aBL a1 2, aN8 (by omega)]; rfl]
        rfl
      rw [this]
    have hn : (aY a1 [36] && aY (a1.drop 1) [40]) = false := by
      cases a1 with
      | nil => rfl
      | cons x t =>
        cases t with
        | nil => show (_ && false) = false; simp
        | cons => simp at hlt; omega
    rw [hl, aNR, hat0, aNR, hn, Bool.false_and, aNQ, show ((2 : Int) == (2 : Int)) = true from rfl]
    cases hx : (hd a1 != (36 : Int)) with
    | true => rfl
    | false =>
      rw [aNY, eU rfl, hat1, aNR]
      cases (hd (a1.drop 1) != (40 : Int)) <;> rfl
  · have hl := nM letB (a1.drop 2)
    rw [aNU] at hl
    rw [show aR (bN a1) (2 : Int) = _ from refLet hs 2 hge, aNR, hat0, aNR]
    rw [show (hd a1 != (36 : Int)) = !aY a1 [36] by rw [<- e0]; rfl]
    cases h0 : aY a1 [36] with
    | false => rfl
    | true =>
      rw [aNV, aNY, eU rfl, hat1, aNR, aNQ, aOi]
      rw [show (hd (a1.drop 1) != (40 : Int)) = !aY (a1.drop 1) [40] by rw [<- e1]; rfl]
      cases h1 : aY (a1.drop 1) [40] with
      | false => rfl
      | true =>
        have ez : ((((2 + (tw letB (a1.drop 2)).length : Nat) : Int)) == (2 : Int)) = (tw letB (a1.drop 2) == ([] : aA)) := by
          rw [<- oW, <- lenz, aN1, beq_iff_eq, beq_iff_eq]
          omega
        rw [aNV, aNQ, aOi, ez]
        cases he : (tw letB (a1.drop 2) == ([] : aA)) with
        | true => rfl
        | false =>
          have e9 : a1.drop (2 + (tw letB (a1.drop 2)).length) = dw letB (a1.drop 2) := by
            rw [<- aN2, p5]
          rw [aNQ, aNY, aNP, show slc a1 (2 : Int) ((2 + (tw letB (a1.drop 2)).length : Nat) : Int) = _ from nY a1 2 _ (by omega) (by omega), aNR, aN7, aN5, oU, aBL, e9, aNR]
          have e3 : (hd (dw letB (a1.drop 2)) == (123 : Int)) = aY (dw letB (a1.drop 2)) [123] := uR (c := 123) (by decide) _
          rw [e3]
          cases hb : aY (dw letB (a1.drop 2)) [123] with
          | false =>
            rw [aNQ, aNQ, aGQ hs hv (by omega) (aN4 _) _ (by omega), e9]
          | true =>
            have h3 : 1 <= (dw letB (a1.drop 2)).length := nX hb
            have hl2 := nM (nB kBad) ((dw letB (a1.drop 2)).drop 1)
            rw [aNU] at hl2
            unfold maxLen at hs
            generalize hm : 2 + (tw letB (a1.drop 2)).length = m at *
            have e10 : a1.drop (m + 1) = (dw letB (a1.drop 2)).drop 1 := by rw [<- e9, aN2]
            have w1 : IntKind.i64.wrap (((m : Nat) : Int) + (1 : Int)) = ((m + 1 : Nat) : Int) := by rw [wrap_i64 (by omega) (by omega)]; omega
            rw [aNP, aNP, w1, show cA a1 ((m + 1 : Nat) : Int) ([125, 41, 124, 39, 10, 13] : aA) = _ from aKa kBad (m + 1) (by unfold maxLen kBad; simp) (by unfold maxLen; omega) (by omega), aNR, e10]
            have ez2 : ((((m + 1 + (tw (nB kBad) ((dw letB (a1.drop 2)).drop 1)).length : Nat) : Int)) == ((m + 1 : Nat) : Int)) = (tw (nB kBad) ((dw letB (a1.drop 2)).drop 1) == ([] : aA)) := by
              rw [<- oW, <- lenz, aN1, beq_iff_eq, beq_iff_eq]
              omega
            rw [ez2]
            cases hk : (tw (nB kBad) ((dw letB (a1.drop 2)).drop 1) == ([] : aA)) with
            | true => rfl
            | false =>
              have e11 : a1.drop (m + 1 + (tw (nB kBad) ((dw letB (a1.drop 2)).drop 1)).length) = dw (nB kBad) ((dw letB (a1.drop 2)).drop 1) := by
                rw [<- aN2, e10, p5]
              rw [aNY, eU rfl, aBL, e11, aNR, aNQ, aOi]
              have e4 : (hd (dw (nB kBad) ((dw letB (a1.drop 2)).drop 1)) == (125 : Int)) = aY (dw (nB kBad) ((dw letB (a1.drop 2)).drop 1)) [125] := uR (c := 125) (by decide) _
              rw [show (hd (dw (nB kBad) ((dw letB (a1.drop 2)).drop 1)) != (125 : Int)) = !aY (dw (nB kBad) ((dw letB (a1.drop 2)).drop 1)) [125] by rw [<- e4]; rfl]
              cases hb2 : aY (dw (nB kBad) ((dw letB (a1.drop 2)).drop 1)) [125] with
              | false => rfl
              | true =>
                have h5 : 1 <= (dw (nB kBad) ((dw letB (a1.drop 2)).drop 1)).length := nX hb2
                have w2 : IntKind.i64.wrap ((((m + 1 + (tw (nB kBad) ((dw letB (a1.drop 2)).drop 1)).length : Nat) : Int)) + (1 : Int)) = ((m + 1 + (tw (nB kBad) ((dw letB (a1.drop 2)).drop 1)).length + 1 : Nat) : Int) := by
                  rw [wrap_i64 (by omega) (by omega)]; omega
                rw [aNV, aNQ, aNP, nY a1 (m + 1) _ (by omega) (by omega), aNR, aN7, aN5, e10, oU, w2, aGQ (by unfold maxLen; omega) hv (by omega) (by omega) _ (by omega)]
                rw [<- aN2, e11]
end
theorem aEZ {σ τ ρ π : Type} {b1 : σ -> Option (σ ⊕ ρ)} {b2 : τ -> Option (τ ⊕ π)} (μ : σ -> Nat) (R : σ -> τ -> Prop) (Q : ρ -> π -> Prop)
    (h : ∀ x y, R x y -> (∃ x' y', b1 x = some (.inl x') /\ b2 y = some (.inl y') /\ R x' y' /\ μ x' < μ x) ∨ (∃ r s, b1 x = some (.inr r) /\ b2 y = some (.inr s) /\ Q r s)) :
    ∀ x y, R x y -> ∃ r s, aR b1 x = some r /\ aR b2 y = some s /\ Q r s := by
  have key : ∀ n x y, μ x <= n -> R x y -> ∃ r s, aR b1 x = some r /\ aR b2 y = some s /\ Q r s := by
    intro n
    induction n with
    | zero =>
      intro x y hn hr
      rcases h x y hr with ⟨x', y', h1, h2, h3, h4⟩ | ⟨r, s, h1, h2, h3⟩
      · omega
      · exact ⟨r, s, by rw [aS, h1], by rw [aS, h2], h3⟩
    | succ n ih =>
      intro x y hn hr
      rcases h x y hr with ⟨x', y', h1, h2, h3, h4⟩ | ⟨r, s, h1, h2, h3⟩
      · obtain ⟨r, s, k1, k2, k3⟩ := ih x' y' (by omega) h3
        exact ⟨r, s, by rw [aS, h1]; exact k1, by rw [aS, h2]; exact k2, k3⟩
      · exact ⟨r, s, by rw [aS, h1], by rw [aS, h2], h3⟩
  exact fun x y hr => key (μ x) x y (aN3 _) hr
theorem jH {α : Type} [Inhabited α] (l : List α) (n : Int) : gidx true l n = idx l n := rfl
theorem aA2 {α : Type} [Inhabited α] (l : List α) (n : Int) : gidx false l n = some default := rfl
theorem kQ {α : Type} [Inhabited α] (o : Option α) : f6 true o = o := rfl
theorem aD4 {α : Type} [Inhabited α] (o : Option α) : f6 false o = some default := rfl
theorem eV (x y : UInt8) : ((x.toNat : Int) == (y.toNat : Int)) = (x == y) := by
  rw [aN1, beq_iff_eq, beq_iff_eq]
  exact ⟨fun h => UInt8.toNat_inj.1 (by omega), fun h => by rw [h]⟩
theorem aE0 (c x : UInt8) : nB [c] x = !(x == c) := by
  unfold nB
  simp only [aOf, List.contains_nil, Bool.or_false]
theorem xT {s : aA} (c : UInt8) (hs : s.length <= maxLen) : cM s (c.toNat : Int) = some (cutC c s) := by
  unfold cM
  rw [show (0 : Int) = ((0 : Nat) : Int) from rfl, oV (nB [c]) (body := eW s (c.toNat : Int)) (fun i => bif Nat.blt i s.length then (s.take i, s.drop (i + 1), true) else (s, [], false)) 0 (aN4 _) (fun i x hx hp => ?_) (fun i hi hx => ?_)]
  · rw [aN0, Nat.zero_add, aEY]
    have hl := nM (nB [c]) s
    cases hd : (dw (nB [c]) s == ([] : aA)) with
    | true =>
      have : dw (nB [c]) s = [] := eq_of_beq hd
      rw [this, List.length_nil] at hl
      have e : Nat.blt (tw (nB [c]) s).length s.length = false := by
        cases hb : Nat.blt (tw (nB [c]) s).length s.length with
        | false => rfl
        | true => have := Nat.le_of_ble_eq_true hb; omega
      rw [e]; rfl
    | false =>
      have h3 : 1 <= (dw (nB [c]) s).length := by
        cases hz : dw (nB [c]) s with
        | nil => rw [hz] at hd; cases hd
        | cons => simp
      have e : Nat.blt (tw (nB [c]) s).length s.length = true := Nat.ble_eq_true_of_le (by omega)
      rw [e, aNP, aNQ, oU, <- aN2, p5]
  · unfold eW
    rw [aE0, aOo] at hp
    rw [aX (aO hx), aNP, bV hx, aNR, eV, hp, aNQ, bM (aO hx) hs]
  · unfold eW
    rcases aOd i s.length with h | h
    · have hx' := aNS h
      have hp := hx _ hx'
      rw [aE0, Bool.not_eq_false'] at hp
      rw [aX h, aNP, bV hx', aNR, eV, hp, aNP, mF s i (by omega), aNR, bM h hs, jX s (i + 1) (by omega), aNR, show Nat.blt i s.length = true from Nat.ble_eq_true_of_le h]
      rfl
    · have : i = s.length := by omega
      subst this
      rw [bP, aNQ]
      have e : Nat.blt s.length s.length = false := by
        cases hb : Nat.blt s.length s.length with
        | false => rfl
        | true => have := Nat.le_of_ble_eq_true hb; omega
      rw [e]; rfl
theorem wL (c : UInt8) (s : aA) : Lib.split s [c] = bif (cutC c s).2.2 then (cutC c s).1 :: Lib.split (cutC c s).2.1 [c] else [s] := by
  unfold Lib.split
  rcases oL c s with ⟨h1, h2⟩ | ⟨i, h1, h2, h3⟩
  · rw [h2, aNQ, Lib.count_miss (by rw [Lib.index_one]; exact h1)]; rfl
  · have hi : Lib.index s [c] = (i : Int) := by rw [Lib.index_one]; exact h1
    rw [h3, aNP, Lib.count_hit (by simp) hi, Nat.add_comm 1, Lib.splitK, hi]
    have : ((i : Int) == -1) = false := by simp
    rw [this]
    simp
theorem aD5 (c : UInt8) (s : aA) (h : (cutC c s).2.2 = true) : (cutC c s).2.1.length < s.length /\ (cutC c s).1.length < s.length := by
  rcases oL c s with ⟨h1, h2⟩ | ⟨i, h1, h2, h3⟩
  · rw [h2] at h; cases h
  · rw [h3]; simp; omega
theorem aIK (c : UInt8) (s : aA) (h : (cutC c s).2.2 = false) : cutC c s = (s, [], false) := by
  rcases oL c s with ⟨h1, h2⟩ | ⟨i, h1, h2, h3⟩
  · exact h2
  · rw [h3] at h; cases h
theorem wN {s : aA} (c : UInt8) (hs : s.length <= 100000) : eE s (c.toNat : Int) = some (Lib.split s [c]) := by
  unfold eE
  have := oT (body := e8 (c.toNat : Int)) (fun x => x.2 ++ Lib.split x.1 [c]) (fun x => x.1.length) (fun x => x.1.length + x.2.length <= 100000) (fun x hx => ?_) (s, []) (by simpa using hs)
  · rw [this]; rfl
  · obtain ⟨s1, s2⟩ := x
    dsimp only at hx ⊢
    unfold e8
    dsimp only
    rw [xT c (by unfold maxLen; omega), aNR, n9 (by simp; omega) (by omega), aNR, wL]
    cases hc : (cutC c s1).2.2 with
    | true =>
      have := aD5 c s1 hc
      refine .inl ⟨((cutC c s1).2.1, s2 ++ [(cutC c s1).1]), rfl, ?_, this.1, ?_⟩
      · simp; omega
      · simp
    | false =>
      rw [aIK c s1 hc]
      exact .inr rfl
theorem yV (c : UInt8) : ∀ (n : Nat) (s : aA), s.length <= n -> (Lib.split s [c]).length <= s.length + 1 /\ ∀ p, p ∈ Lib.split s [c] -> p.length <= s.length := by
  intro n
  induction n with
  | zero =>
    intro s hs
    have : s = [] := List.eq_nil_of_length_eq_zero (by omega)
    subst this
    rw [wL]
    exact ⟨by simp [cutC], by simp [cutC]⟩
  | succ n ih =>
    intro s hs
    rw [wL]
    cases hc : (cutC c s).2.2 with
    | false => rw [aNQ]; exact ⟨by simp, by simp⟩
    | true =>
      have h1 := aD5 c s hc
      obtain ⟨i1, i2⟩ := ih (cutC c s).2.1 (by omega)
      rw [aNP]
      refine ⟨by rw [aNT]; omega, fun p hp => ?_⟩
      rcases List.mem_cons.1 hp with rfl | hp
      · omega
      · have := i2 p hp; omega
def hxv (b : UInt8) : Int := Lib.indexByte [48, 49, 50, 51, 52, 53, 54, 55, 56, 57, 97, 98, 99, 100, 101, 102] (lowB b)
theorem aJF (b : UInt8) : nH (b.toNat : Int) = some (hxv b) := by
  unfold nH
  rw [aAY, aBI (by simp [maxLen]), aNR]
  show ((idx [lowB b] (0 : Int)).bind _) = _
  rw [show idx [lowB b] (0 : Int) = some (lowB b) from rfl, aNR, w9, aAY]; rfl
theorem val11 (b : UInt8) : ∃ v, cT (b.toNat : Int) = some v /\ decide (v < (16 : Int)) = decide (hxv b ≥ (0 : Int)) /\ (hxv b ≥ 0 -> v = hxv b /\ hxv b <= 15) := by
  have := pR (p := fun b => match cT (b.toNat : Int) with | some v => (decide (v < (16 : Int)) == decide (hxv b ≥ (0 : Int))) && (!decide (hxv b ≥ 0) || (v == hxv b && decide (hxv b <= 15))) | none => false) (by kernel_rfl) b
  cases h : cT (b.toNat : Int) with
  | none => rw [h] at this; cases this
  | some v =>
    rw [h] at this
    simp only [aN6, beq_iff_eq, Bool.or_eq_true, aOo, decide_eq_false_iff_not, decide_eq_true_eq] at this
    exact ⟨v, rfl, this.1, fun hd => this.2.resolve_left (by omega)⟩
theorem aA3 {s : aA} (hs : s.length <= 100000) : ∃ r, m5 s = some r /\ fH s = some r /\ r.length <= s.length := by
  unfold m5 fH
  have fin : (∃ r r', aR (iR s) (([] : aA), (0 : Int)) = some r /\ aR c8 (s, ([] : aA)) = some r' /\ (r = r' /\ r.length <= s.length)) ->
      ∃ r, (aR (iR s) (([] : aA), (0 : Int)) : Option aA).bind (fun j1 => some j1) = some r /\ (aR c8 (s, ([] : aA)) : Option aA).bind (fun j1 => some j1) = some r /\ r.length <= s.length := by
    rintro ⟨r, r', h1, h2, h3, h4⟩
    subst h3
    exact ⟨r, by rw [h1]; rfl, by rw [h2]; rfl, h4⟩
  refine fin (aEZ (b1 := iR s) (b2 := c8) (fun x => s.length - x.2.toNat)
    (fun x y => ∃ i : Nat, x.2 = (i : Int) /\ i <= s.length /\ y.1 = s.drop i /\ x.1 = y.2 /\ x.1.length <= i) (fun r r' => r = r' /\ r.length <= s.length) (fun x y hxy => ?_) (([] : aA), (0 : Int)) (s, ([] : aA)) ⟨0, rfl, aN4 _, rfl, rfl, aN3 _⟩)
  · obtain ⟨acc, i0⟩ := x
    obtain ⟨suf, acc'⟩ := y
    obtain ⟨i, hi, hle, hsuf, hacc, hlen⟩ := hxy
    dsimp only at hi hsuf hacc hlen
    subst hi hsuf hacc
    unfold iR c8
    dsimp only
    rcases aOd i s.length with hlt | hge
    · have hd := aNX hlt
      have hx := aNS hlt
      generalize hxx : s[i] = x at hd hx
      generalize ht : s.drop (i + 1) = t at hd
      have htl : t.length = s.length - (i + 1) := by rw [<- ht, aNU]
      have happ : ∀ (y : UInt8), app 1 acc [y] = some (acc ++ [y]) := fun y => n9 (by simp; omega) (by omega)
      have hcat : ∀ (y : UInt8), cat acc [y] = some (acc ++ [y]) := fun y => jG (by simp [maxLen]; omega)
      have w1 : IntKind.i64.wrap ((i : Int) + (1 : Int)) = ((i + 1 : Nat) : Int) := bM hlt (by unfold maxLen; omega)
      have w2 : IntKind.i64.wrap ((i : Int) + (2 : Int)) = ((i + 2 : Nat) : Int) := by rw [wrap_i64 (by omega) (by omega)]; omega
      have hi0 : idx (x :: t) (0 : Int) = some x := rfl
      have step1 : ∀ (y : UInt8), ∃ (x' : aA × Int) (y' : aA × aA), (some (.inl (acc ++ [y], ((i + 1 : Nat) : Int))) : Option ((aA × Int) ⊕ aA)) = some (.inl x') /\ (some (.inl (t, acc ++ [y])) : Option ((aA × aA) ⊕ aA)) = some (.inl y') /\
          (∃ k : Nat, x'.2 = (k : Int) /\ k <= s.length /\ y'.1 = s.drop k /\ x'.1 = y'.2 /\ x'.1.length <= k) /\ s.length - x'.2.toNat < s.length - (i : Int).toNat := fun y =>
        ⟨_, _, rfl, rfl, ⟨i + 1, rfl, by omega, ht.symm, rfl, by simp; omega⟩, by simp only [aNW]; omega⟩
      rw [aX hlt, aNP, bV hx, aNR, hd, show (!(x :: t == ([] : aA))) = true from rfl, aNP, hi0, aNR]
      rw [show ((x.toNat : Int) == (43 : Int)) = (x == 43) from eV x 43, show ((x.toNat : Int) == (37 : Int)) = (x == 37) from eV x 37]
      cases h43 : (x == 43) with
      | true =>
        rw [aNP, aNP, happ, hcat, aNR, aNR, qU, aNR, w1]
        exact .inl (step1 32)
      | false =>
        rw [aNQ, aNQ, aNR, show ((x.toNat : Int) == (37 : Int)) = (x == 37) from eV x 37]
        have plainEnd : ∀ (o1 : Option ((aA × Int) ⊕ aA)) (o2 : Option ((aA × aA) ⊕ aA)),
            o1 = (app 1 acc ([u8 (x.toNat : Int)] : List UInt8)).bind (fun x15 => some (.inl (x15, (IntKind.i64.wrap ((i : Int) + (1 : Int)))))) ->
            o2 = (slc (x :: t) 0 (1 : Int)).bind (fun x18 => (cat acc x18).bind fun x19 => (slc (x :: t) (1 : Int) ((x :: t).length : Int)).bind fun x20 => some (.inl (x20, x19))) ->
            (∃ x' y', o1 = some (.inl x') /\ o2 = some (.inl y') /\ (∃ k : Nat, x'.2 = (k : Int) /\ k <= s.length /\ y'.1 = s.drop k /\ x'.1 = y'.2 /\ x'.1.length <= k) /\ s.length - x'.2.toNat < s.length - (i : Int).toNat) ∨
              (∃ r r', o1 = some (.inr r) /\ o2 = some (.inr r') /\ r = r' /\ r.length <= s.length) := fun o1 o2 e1 e2 => by
          subst e1 e2
          rw [aAY, happ, aNR, w1, show slc (x :: t) 0 (1 : Int) = some [x] from mF (x :: t) 1 (by simp), aNR, hcat, aNR, qU, aNR]
          exact .inl (step1 x)
        cases h37 : (x == 37) with
        | false =>
          exact plainEnd _ _ rfl rfl
        | true =>
          rw [aNP, aNP, w2]
          have eg : decide ((((x :: t).length : Nat) : Int) > (2 : Int)) = decide (((i + 2 : Nat) : Int) < (s.length : Int)) := by
            rw [aN1, decide_eq_true_eq, decide_eq_true_eq, aNT]; omega
          rw [eg]
          cases hg : decide (((i + 2 : Nat) : Int) < (s.length : Int)) with
          | false => exact plainEnd _ _ rfl rfl
          | true =>
            have hg' : i + 2 < s.length := by have := of_decide_eq_true hg; omega
            obtain ⟨a, b, u, hu⟩ : ∃ a b u, t = a :: b :: u := by
              match t, htl with
              | [], h => simp at h; omega
              | [a], h => simp at h; omega
              | a :: b :: u, h => exact ⟨a, b, u, rfl⟩
            subst hu
            have ha : s[i + 1]? = some a := by rw [<- List.head?_drop, ht]; rfl
            have hb : s[i + 2]? = some b := by
              have : s.drop (i + 2) = b :: u := by rw [show i + 2 = i + 1 + 1 by omega, <- aN2, ht]; rfl
              rw [<- List.head?_drop, this]; rfl
            have hu2 : s.drop (i + 3) = u := by rw [show i + 3 = i + 1 + 2 by omega, <- aN2, ht]; rfl
            have i1 : idx (x :: a :: b :: u) (1 : Int) = some a := rfl
            have i2 : idx (x :: a :: b :: u) (2 : Int) = some b := rfl
            obtain ⟨va, va1, va2, va3⟩ := val11 a
            obtain ⟨vb, vb1, vb2, vb3⟩ := val11 b
            simp only [jH, kQ, aNP, w1, bV ha, aNR, aJF, i1, va1, va2]
            cases hha : decide (hxv a ≥ (0 : Int)) with
            | false =>
              have := plainEnd _ _ rfl rfl
              rw [w1] at this
              simp only [aA2, aD4, aNQ, aNR]
              exact this
            | true =>
              simp only [jH, kQ, aNP, bV hb, aNR, aJF, i2, vb1, vb2]
              cases hhb : decide (hxv b ≥ (0 : Int)) with
              | false =>
                have := plainEnd _ _ rfl rfl
                rw [w1] at this
                simp only [aNQ]
                exact this
              | true =>
                simp only [aNP]
                obtain ⟨ea, ea2⟩ := va3 (of_decide_eq_true hha)
                obtain ⟨eb, eb2⟩ := vb3 (of_decide_eq_true hhb)
                have ga := of_decide_eq_true hha
                have gb := of_decide_eq_true hhb
                have s3 : slc (x :: a :: b :: u) (3 : Int) ((x :: a :: b :: u).length : Int) = some u := jX (x :: a :: b :: u) 3 (by simp)
                have w3 : IntKind.i64.wrap (((i + 2 : Nat) : Int) + (1 : Int)) = ((i + 3 : Nat) : Int) := by rw [wrap_i64 (by omega) (by omega)]; omega
                have ev : IntKind.i64.wrap ((IntKind.i64.wrap (hxv a * (16 : Int))) + hxv b) = IntKind.i64.wrap ((IntKind.i64.wrap ((16 : Int) * va)) + vb) := by
                  rw [ea, eb, Int.mul_comm]
                refine .inl ⟨(acc ++ [u8 (IntKind.u8.wrap (IntKind.i64.wrap ((IntKind.i64.wrap (hxv a * (16 : Int))) + hxv b)))], ((i + 3 : Nat) : Int)), (u, acc ++ [u8 (IntKind.u8.wrap (IntKind.i64.wrap ((IntKind.i64.wrap (hxv a * (16 : Int))) + hxv b)))]), ?_, ?_, ⟨i + 3, rfl, by omega, hu2.symm, rfl, by simp; omega⟩, by simp only [aNW]; omega⟩
                · rw [happ, aNR, w3]
                · rw [<- ev, hcat, aNR, s3, aNR]
    · have : i = s.length := by omega
      subst this
      rw [bP, aNQ, aOl]
      exact .inr ⟨acc, acc, rfl, rfl, rfl, hlen⟩
theorem mG {ρ : Type} {body : Int -> Option (Int ⊕ ρ)} : ∀ (i : Nat), (∀ j : Nat, j < i -> body (j : Int) = some (.inl ((j + 1 : Nat) : Int))) -> aR body (0 : Int) = aR body (i : Int)
  | 0, _ => rfl
  | i + 1, h => by
    rw [mG i fun j hj => h j (by omega), aS, h i (by omega)]
theorem qW {α : Type} (p : α -> Bool) : ∀ (l : List α), (∀ (i : Nat) (x : α), l[i]? = some x -> p x = false) ∨ ∃ (i : Nat) (x : α), l[i]? = some x /\ p x = true /\ ∀ (j : Nat) (y : α), j < i -> l[j]? = some y -> p y = false
  | [] => .inl fun i x h => by simp at h
  | x :: l => by
    cases hx : p x with
    | true => exact .inr ⟨0, x, rfl, hx, fun j y hj => by omega⟩
    | false =>
      rcases qW p l with h | ⟨i, y, h1, h2, h3⟩
      · refine .inl fun i y hy => ?_
        cases i with
        | zero => simp at hy; rw [<- hy]; exact hx
        | succ i => exact h i y (by simpa using hy)
      · refine .inr ⟨i + 1, y, by simpa using h1, h2, fun j z hj hz => ?_⟩
        cases j with
        | zero => simp at hz; rw [<- hz]; exact hx
        | succ j => exact h3 j z (by omega) (by simpa using hz)
theorem yW {α β ρ π : Type} (l : List α) {b1 : Int × List β -> Option ((Int × List β) ⊕ ρ)} {b2 : List β × Int -> Option ((List β × Int) ⊕ π)} (Q : ρ -> π -> Prop) (Inv : Nat -> List β -> Prop)
    (h : ∀ (i : Nat) (x : α) (acc : List β), l[i]? = some x -> Inv i acc -> ∃ acc', b1 ((i : Int), acc) = some (.inl (((i + 1 : Nat) : Int), acc')) /\ b2 (acc, (i : Int)) = some (.inl (acc', ((i + 1 : Nat) : Int))) /\ Inv (i + 1) acc')
    (hf : ∀ acc, Inv l.length acc -> ∃ r s, b1 ((l.length : Int), acc) = some (.inr r) /\ b2 (acc, (l.length : Int)) = some (.inr s) /\ Q r s) (acc0 : List β) (h0 : Inv 0 acc0) :
    ∃ r s, aR b1 ((0 : Int), acc0) = some r /\ aR b2 (acc0, (0 : Int)) = some s /\ Q r s := by
  refine aEZ (fun x => l.length - x.1.toNat) (fun x y => ∃ (i : Nat) (acc : List β), x = ((i : Int), acc) /\ y = (acc, (i : Int)) /\ i <= l.length /\ Inv i acc) Q (fun x y hxy => ?_) _ _ ⟨0, acc0, rfl, rfl, aN4 _, h0⟩
  obtain ⟨i, acc, rfl, rfl, hi, hinv⟩ := hxy
  rcases aOd i l.length with hlt | hge
  · obtain ⟨acc', h1, h2, h3⟩ := h i l[i] acc (aNS hlt) hinv
    exact .inl ⟨_, _, h1, h2, ⟨i + 1, acc', rfl, rfl, by omega, h3⟩, by simp only [aNW]; omega⟩
  · have : i = l.length := by omega
    subst this
    exact .inr (hf acc hinv)
theorem yX {s : aA} (c : UInt8) (hs : s.length <= 100000) : strings_Split s [c] = some (Lib.split s [c]) := by
  unfold strings_Split
  rw [d8 ⟨by simp, by omega⟩]
def PSm (n : Nat) (l : List aE) : Prop := ∀ p, p ∈ l -> p.Name.length <= n /\ p.Value.length <= n
theorem PSm.snoc {n : Nat} {l : List aE} {p : aE} (h : PSm n l) (h1 : p.Name.length <= n) (h2 : p.Value.length <= n) : PSm n (l ++ [p]) := fun q hq => by
  rcases List.mem_append.1 hq with hq | hq
  · exact h q hq
  · rw [List.mem_singleton.1 hq]; exact ⟨h1, h2⟩
theorem aA4 {s : aA} (hs : s.length <= 10000) : ∃ r, kC s = some r /\ bE s = some r /\ PSm s.length r /\ r.length <= s.length + 1 := by
  obtain ⟨hl1, hl2⟩ := yV 38 s.length s (aN3 _)
  have fin : (∃ (r : Unit × List aE) (r' : List aE), aR (cI (Lib.split s [38])) ((0 : Int), ([] : List aE)) = some r /\ aR (d5 (Lib.split s [38])) (([] : List aE), (0 : Int)) = some r' /\ (r = ((), r') /\ PSm s.length r' /\ r'.length <= s.length + 1)) ->
      ∃ r, kC s = some r /\ bE s = some r /\ PSm s.length r /\ r.length <= s.length + 1 := by
    rintro ⟨r, r', h1, h2, h3, h4, h5⟩
    subst h3
    refine ⟨r', ?_, ?_, h4, h5⟩
    · unfold kC fT
      rw [yX 38 (by omega), aNR, h1]; rfl
    · unfold bE
      rw [show (38 : Int) = ((38 : UInt8).toNat : Int) from rfl, wN 38 (by omega), aNR, h2]; rfl
  refine fin (yW (Lib.split s [38]) _ (fun i acc => acc.length <= i /\ PSm s.length acc) (fun i x acc hx hinv => ?_) (fun acc hinv => ?_) [] ⟨by simp, fun p hp => by cases hp⟩)
  · have hxl := hl2 x (aOg hx)
    have hlt := aO hx
    unfold cI d5 oC
    dsimp only
    rw [aX hlt, bV hx]
    simp only [aNP, aNR]
    rw [bM hlt (by unfold maxLen; omega)]
    cases hn : (x == ([] : aA)) with
    | true => exact ⟨acc, rfl, rfl, by omega, hinv.2⟩
    | false =>
      have hc := wK 61 x
      obtain ⟨n, n1, n2, n3⟩ := aA3 (s := (cutC 61 x).1) (by omega)
      obtain ⟨v, v1, v2, v3⟩ := aA3 (s := (cutC 61 x).2.1) (by omega)
      simp only [aNY, aNP, yQ 61 (show x.length <= maxLen by unfold maxLen; omega), show cM x (61 : Int) = some (cutC 61 x) from xT 61 (by unfold maxLen; omega), aNR, n1, n2, v1, v2]
      rw [n9 (by simp; omega) (by omega)]
      exact ⟨acc ++ [aE.mk n v], rfl, rfl, by simp; omega, hinv.2.snoc (by show n.length <= _; omega) (by show v.length <= _; omega)⟩
  · unfold cI d5
    dsimp only
    rw [bP]
    exact ⟨((), acc), acc, rfl, rfl, rfl, hinv.2, by omega⟩
def aCY (l : List aE) (n : aA) : aA × Bool := match l.find? (fun p => p.Name == n) with
  | some p => (p.Value, true)
  | none => ([], false)
theorem aCZ {α : Type} {p : α -> Bool} {l : List α} (h : ∀ (i : Nat) (x : α), l[i]? = some x -> p x = false) : l.find? p = none := by
  rw [List.find?_eq_none]
  intro x hx
  obtain ⟨i, hi⟩ := List.getElem?_of_mem hx
  rw [h i x hi]; simp
theorem aBM {α : Type} {p : α -> Bool} : ∀ {l : List α} {i : Nat} {x : α}, l[i]? = some x -> p x = true -> (∀ (j : Nat) (y : α), j < i -> l[j]? = some y -> p y = false) -> l.find? p = some x
  | [], i, x, h, _, _ => by simp at h
  | y :: l, 0, x, h, hp, _ => by simp at h; subst h; exact List.find?_cons_of_pos hp
  | y :: l, i + 1, x, h, hp, hn => by
    rw [List.find?_cons_of_neg (by rw [hn 0 y (by omega) rfl]; simp)]
    exact aBM (by simpa using h) hp fun j z hj hz => hn (j + 1) z (by omega) (by simpa using hz)
theorem aGS {l : List aE} {n : aA} (hl : l.length <= maxLen) : oH l n = some (aCY l n) := by
  unfold oH aCY cV
  rcases qW (fun p : aE => p.Name == n) l with h | ⟨i, x, h1, h2, h3⟩
  · rw [aCZ h, mG l.length fun j hj => ?_, aS]
    · have : aN l (fun x0 => iK x0 n) (l.length : Int) = some (.inr (-1 : Int)) := by
        unfold aN
        rw [bP]; rfl
      rw [this]; rfl
    · unfold aN iK
      have hx := aNS hj
      have := h j _ hx
      simp only [aX hj, aNP, bV hx, aNR, this, aNQ]
      rw [bM hj hl]
  · rw [aBM (p := fun p : aE => p.Name == n) h1 h2 h3, mG i fun j hj => ?_, aS]
    · have : aN l (fun x0 => iK x0 n) (i : Int) = some (.inr (i : Int)) := by
        unfold aN iK
        simp only [aX (aO h1), aNP, bV h1, aNR, h2]
      rw [this]
      simp only [aNR]
      rw [show decide ((i : Int) ≥ (0 : Int)) = true by simp, aNP, bV h1, aNR]
    · unfold aN iK
      have hj' : j < l.length := by have := aO h1; omega
      have hx := aNS hj'
      have := h3 j _ hj hx
      simp only [aX hj', aNP, bV hx, aNR, this, aNQ]
      rw [bM hj' hl]
theorem aA5 {l : List aE} {n : aA} (hl : l.length <= maxLen) : aV l n = some (aCY l n) := by
  unfold aV aCY
  rcases qW (fun p : aE => p.Name == n) l with h | ⟨i, x, h1, h2, h3⟩
  · rw [aCZ h, mG l.length fun j hj => ?_, aS]
    · have : cG l n (l.length : Int) = some (.inr (([] : aA), false)) := by
        unfold cG
        rw [bP]; rfl
      rw [this]
    · unfold cG
      have hx := aNS hj
      have := h j _ hx
      simp only [aX hj, aNP, bV hx, aNR, this, aNQ]
      rw [bM hj hl]
  · rw [aBM (p := fun p : aE => p.Name == n) h1 h2 h3, mG i fun j hj => ?_, aS]
    · have : cG l n (i : Int) = some (.inr (x.Value, true)) := by
        unfold cG
        simp only [aX (aO h1), aNP, bV h1, aNR, h2]
      rw [this]
    · unfold cG
      have hj' : j < l.length := by have := aO h1; omega
      have hx := aNS hj'
      have := h3 j _ hj hx
      simp only [aX hj', aNP, bV hx, aNR, this, aNQ]
      rw [bM hj' hl]
def hasS (l : List aA) (x : aA) : Bool := l.any (fun y => x == y)
theorem any_none' {α : Type} {p : α -> Bool} {l : List α} (h : ∀ (i : Nat) (x : α), l[i]? = some x -> p x = false) : l.any p = false := by
  rw [List.any_eq_false]
  intro x hx
  obtain ⟨i, hi⟩ := List.getElem?_of_mem hx
  rw [h i x hi]; simp
theorem sJ {l : List aA} {x : aA} (hl : l.length <= maxLen) : bC l x = some (hasS l x) := by
  unfold bC eR hasS
  rcases qW (fun y : aA => x == y) l with h | ⟨i, y, h1, h2, h3⟩
  · rw [any_none' h, mG l.length fun j hj => ?_, aS]
    · have : a7 l x (l.length : Int) = some (.inr (-1 : Int)) := by
        unfold a7
        rw [bP]; rfl
      rw [this]; rfl
    · unfold a7
      have hx := aNS hj
      have := h j _ hx
      simp only [aX hj, aNP, bV hx, aNR, this, aNQ]
      rw [bM hj hl]
  · rw [List.any_eq_true.2 ⟨y, aOg h1, h2⟩, mG i fun j hj => ?_, aS]
    · have : a7 l x (i : Int) = some (.inr (i : Int)) := by
        unfold a7
        simp only [aX (aO h1), aNP, bV h1, aNR, h2]
      rw [this]
      simp only [aNR]
      rw [show decide ((i : Int) ≥ (0 : Int)) = true by simp]
    · unfold a7
      have hj' : j < l.length := by have := aO h1; omega
      have hx := aNS hj'
      have := h3 j _ hj hx
      simp only [aX hj', aNP, bV hx, aNR, this, aNQ]
      rw [bM hj' hl]
theorem aA6 (x : aA) : ∀ (l : List aA) (b : Bool), j8 (ρ := Bool) (fun c y => .inl (bif c then true else (y == x))) (fun c => c) l b = (b || hasS l x)
  | [], b => by cases b <;> rfl
  | y :: l, b => by
    rw [kN]
    show j8 _ _ l _ = _
    rw [aA6 x l]
    unfold hasS
    rw [aOe, aOn (a := y)]
    cases b <;> cases (x == y) <;> simp
theorem aFR {l : List aA} {x : aA} (b : Bool) (hl : l.length <= maxLen) : aR (cE l x) (b, (0 : Int)) = some (b || hasS l x) := by
  rw [<- aA6]
  refine lJ (body := cE l x) l (fun i (c : Bool) => (c, (i : Int))) _ _ (fun _ _ => True) (fun i c y hy _ => ?_) (fun c _ => ?_) b trivial
  · refine .inl ⟨_, rfl, ?_, trivial⟩
    unfold cE
    simp only [aX (aO hy), aNP, bV hy, aNR]
    rw [bM (aO hy) hl]
  · unfold cE
    simp only [bP, aNQ]
theorem aAC {s : aA} (hs : s.length <= 10000) : ∃ r, fZ s = some r /\ aT s = some r /\ r.length <= s.length + 1 := by
  obtain ⟨hl1, hl2⟩ := yV 44 s.length s (aN3 _)
  have fin : (∃ (r : Unit × List aA) (r' : List aA), aR (bU (Lib.split s [44])) ((0 : Int), ([] : List aA)) = some r /\ aR (cS (Lib.split s [44])) (([] : List aA), (0 : Int)) = some r' /\ (r = ((), r') /\ r'.length <= s.length + 1)) ->
      ∃ r, fZ s = some r /\ aT s = some r /\ r.length <= s.length + 1 := by
    rintro ⟨r, r', h1, h2, h3, h5⟩
    subst h3
    refine ⟨r', ?_, ?_, h5⟩
    · unfold fZ eB
      rw [yX 44 (by omega), aNR, h1]; rfl
    · unfold aT
      rw [show (44 : Int) = ((44 : UInt8).toNat : Int) from rfl, wN 44 (by omega), aNR, h2]; rfl
  refine fin (yW (Lib.split s [44]) _ (fun i acc => acc.length <= i) (fun i x acc hx hinv => ?_) (fun acc hinv => ?_) [] (by simp))
  · have hxl := hl2 x (aOg hx)
    have hlt := aO hx
    unfold bU cS kL
    have hc := wK 59 x
    have ht := aBG (cutC 59 x).1
    have hxm : x.length <= maxLen := by unfold maxLen; omega
    have e1 : cM x (59 : Int) = some (cutC 59 x) := xT 59 hxm
    simp only [aX hlt, bV hx, aNP, aNR, e1, wJ (show (cutC 59 x).1.length <= maxLen by unfold maxLen; omega), yP (show (trim (cutC 59 x).1).length <= maxLen by unfold maxLen; omega)]
    rw [bM hlt (by unfold maxLen; omega), aFR _ (by unfold maxLen; omega)]
    simp only [aNR]
    have happ : app 16 acc [kO (trim (cutC 59 x).1)] = some (acc ++ [kO (trim (cutC 59 x).1)]) := n9 (by simp; omega) (by omega)
    cases hn : (x == ([] : aA)) with
    | true =>
      have : x = [] := eq_of_beq hn
      subst this
      exact ⟨acc, rfl, rfl, by omega⟩
    | false =>
      simp only [aNY, aNP, yQ 59 hxm, aNR, aBH (show (cutC 59 x).1.length <= maxLen by unfold maxLen; omega), aBI (show (trim (cutC 59 x).1).length <= maxLen by unfold maxLen; omega)]
      cases hz : (kO (trim (cutC 59 x).1) == ([] : aA)) with
      | true => exact ⟨acc, rfl, rfl, by omega⟩
      | false =>
        simp only [aNY, kQ, sJ (show acc.length <= maxLen by unfold maxLen; omega), aNR, aNP, aOm]
        cases hasS acc (kO (trim (cutC 59 x).1)) with
        | true => exact ⟨acc, rfl, rfl, by omega⟩
        | false =>
          simp only [aNY, aNP, happ, aNR]
          exact ⟨_, rfl, rfl, by simp; omega⟩
  · unfold bU cS
    simp only [bP]
    exact ⟨((), acc), acc, rfl, rfl, rfl, by omega⟩
theorem aD6 : l9 = some (uQ ctlB) := by
  unfold l9
  have : aR lQ ((0 : Int), (List.replicate 256 false)) = some (uQ ctlB) := l5.2 ⟨257, by kernel_rfl⟩
  rw [this, aNR, d8 (by rw [yR]; omega)]
theorem aGT (p : UInt8 -> Bool) (b : UInt8) : iZ (uQ p) (b.toNat : Int) = some (p b) := by
  have := b.toNat_lt
  unfold iZ
  rw [d8 (by omega), bV (aCT p b)]; rfl
theorem aKc {s : aA} (hs : s.length <= maxLen) (p : UInt8 -> Bool) : sE s (uQ p) (fun x0 x1 => iZ x0 x1) = some (s.any p) := by
  unfold sE
  have := aBJ (l := s) hs (body := lX s (uQ p) (fun x0 x1 => iZ x0 x1)) p true false (fun i x hx => ?_) ?_
  · rw [this]; cases s.any p <;> rfl
  · unfold lX
    simp only [aX (aO hx), aNP, bV hx, aNR, aGT]
    rw [bM (aO hx) hs]
    cases p x <;> rfl
  · unfold lX
    simp only [bP, aNQ]
def unq : aA -> Option aA
  | [] => none
  | [x] => bif x == 34 then some [] else none
  | x :: y :: r => bif x == 34 then none else bif x == 92 then (unq r).map (y :: ·) else (unq (y :: r)).map (x :: ·)
def unm : aA -> Option aA
  | [] => some []
  | [x] => bif x == 34 then none else bif x == 92 then none else some [x]
  | x :: y :: r => bif x == 34 then none else bif x == 92 then (unm r).map (y :: ·) else (unm (y :: r)).map (x :: ·)
theorem yY : ∀ (m : aA), unq (m ++ [34]) = unm m
  | [] => rfl
  | [x] => by
    show unq [x, 34] = _
    unfold unq unm
    cases (x == 34) with
    | true => rfl
    | false => cases (x == 92) <;> rfl
  | x :: y :: r => by
    show unq (x :: y :: (r ++ [34])) = _
    rw [unq, unm, yY r, show y :: (r ++ [34]) = (y :: r) ++ [34] from rfl, yY (y :: r)]
theorem vN : ∀ (w o : aA), unq w = some o -> ∃ m, w = m ++ [34]
  | [], o, h => by cases h
  | [x], o, h => by
    unfold unq at h
    cases hx : (x == 34) with
    | true => exact ⟨[], by rw [eq_of_beq hx]; rfl⟩
    | false => rw [hx] at h; cases h
  | x :: y :: r, o, h => by
    rw [unq] at h
    cases hx : (x == 34) with
    | true => rw [hx] at h; cases h
    | false =>
      rw [hx, aNQ] at h
      cases hy : (x == 92) with
      | true =>
        rw [hy, aNP] at h
        cases hu : unq r with
        | none => rw [hu] at h; cases h
        | some o' =>
          obtain ⟨m, rfl⟩ := vN r o' hu
          exact ⟨x :: y :: m, rfl⟩
      | false =>
        rw [hy, aNQ] at h
        cases hu : unq (y :: r) with
        | none => rw [hu] at h; cases h
        | some o' =>
          obtain ⟨m, hm⟩ := vN (y :: r) o' hu
          exact ⟨x :: m, by rw [hm]; rfl⟩
theorem aD7 : ∀ (m o : aA), unm m = some o -> o.length <= m.length
  | [], o, h => by unfold unm at h; cases h; simp
  | [x], o, h => by
    unfold unm at h
    cases hx : (x == 34) with
    | true => rw [hx] at h; cases h
    | false =>
      cases hy : (x == 92) with
      | true => rw [hx, hy] at h; cases h
      | false => rw [hx, hy] at h; cases h; simp
  | x :: y :: r, o, h => by
    rw [unm] at h
    cases hx : (x == 34) with
    | true => rw [hx] at h; cases h
    | false =>
      rw [hx, aNQ] at h
      cases hy : (x == 92) with
      | true =>
        rw [hy, aNP] at h
        cases hu : unm r with
        | none => rw [hu] at h; cases h
        | some o' => rw [hu] at h; cases h; have := aD7 r o' hu; simp; omega
      | false =>
        rw [hy, aNQ] at h
        cases hu : unm (y :: r) with
        | none => rw [hu] at h; cases h
        | some o' => rw [hu] at h; cases h; have := aD7 (y :: r) o' hu; simp at this ⊢; omega
theorem aD8 : ∀ (m o : aA), unm m = some o -> o.any ctlB = m.any ctlB
  | [], o, h => by unfold unm at h; cases h; rfl
  | [x], o, h => by
    unfold unm at h
    cases hx : (x == 34) with
    | true => rw [hx] at h; cases h
    | false =>
      cases hy : (x == 92) with
      | true => rw [hx, hy] at h; cases h
      | false => rw [hx, hy] at h; cases h; rfl
  | x :: y :: r, o, h => by
    rw [unm] at h
    cases hx : (x == 34) with
    | true => rw [hx] at h; cases h
    | false =>
      rw [hx, aNQ] at h
      cases hy : (x == 92) with
      | true =>
        rw [hy, aNP] at h
        cases hu : unm r with
        | none => rw [hu] at h; cases h
        | some o' =>
          rw [hu] at h; cases h
          rw [aOe, aOe, aOe, aD8 r o' hu, eq_of_beq hy]
          show _ = (false || _)
          rw [aOm]
      | false =>
        rw [hy, aNQ] at h
        cases hu : unm (y :: r) with
        | none => rw [hu] at h; cases h
        | some o' =>
          rw [hu] at h; cases h
          rw [aOe, aOe, aD8 (y :: r) o' hu]
def unqS (v : aA) : aA × Int := bif aY v [34] then (match unq (v.drop 1) with
  | some o => bif o.any ctlB then ([], 11) else (o, 0)
  | none => ([], 11)) else ([], 11)
theorem aIL {v m : aA} (hv : v = 34 :: (m ++ [34])) (hl : v.length <= 100000) : ∀ (n i : Nat) (acc : aA), m.length <= n + i -> i <= m.length -> acc.length <= i -> aR (fY v) (acc, ((i + 1 : Nat) : Int)) = some (match unm (m.drop i) with | some o => (acc ++ o, 0) | none => ([], 11)) := by
  have hlen : v.length = m.length + 2 := by rw [hv]; simp
  have wl : IntKind.i64.wrap ((v.length : Int) - (1 : Int)) = ((m.length + 1 : Nat) : Int) := by rw [wrap_i64 (by omega) (by omega)]; omega
  have hget : ∀ k, k < m.length -> v[k + 1]? = m[k]? := fun k hk => by
    rw [hv, List.getElem?_cons_succ, List.getElem?_append_left hk]
  have stop : ∀ (acc : aA), fY v (acc, ((m.length + 1 : Nat) : Int)) = some (.inr (acc, 0)) := fun acc => by
    unfold fY
    dsimp only
    rw [wl, bP]; rfl
  intro n
  induction n using Nat.strongRecOn with
  | _ n ih =>
  intro i acc hn hi hacc
  by_cases hie : i = m.length
  · subst hie
    rw [aS, stop, aOl]
    simp [unm]
  have hlt : i < m.length := by omega
  have hd := aNX hlt
  have hx : v[i + 1]? = some m[i] := by rw [hget i hlt, aNS hlt]
  generalize hm : m[i] = x at hd hx
  have happ : ∀ (y : UInt8), app 1 acc [y] = some (acc ++ [y]) := fun y => n9 (by simp; omega) (by omega)
  have w1 : IntKind.i64.wrap (((i + 1 : Nat) : Int) + (1 : Int)) = ((i + 1 + 1 : Nat) : Int) := by rw [wrap_i64 (by omega) (by omega)]; omega
  have e1 : (((i + 1 + 1 : Nat) : Int) == ((m.length + 1 : Nat) : Int)) = decide (i + 1 = m.length) := by
    rw [aN1, beq_iff_eq, decide_eq_true_eq]; omega
  have hb : fY v (acc, ((i + 1 : Nat) : Int)) = bif x == 34 then some (.inr ([], 11)) else bif x == 92 then
      (bif decide (i + 1 = m.length) then some (.inr ([], 11)) else (idx v ((i + 1 + 1 : Nat) : Int)).bind fun x8 => (app 1 acc ([x8] : List UInt8)).bind fun x9 => some (.inl (x9, (IntKind.i64.wrap (((i + 1 + 1 : Nat) : Int) + (1 : Int))))))
      else some (.inl (acc ++ [x], ((i + 1 + 1 : Nat) : Int))) := by
    unfold fY
    simp only [wl, aX (show i + 1 < m.length + 1 by omega), aNP, bV hx, aNR, show ((x.toNat : Int) == (34 : Int)) = (x == 34) from eV x 34, show ((x.toNat : Int) == (92 : Int)) = (x == 92) from eV x 92, aAY, happ, w1, e1]
  rw [aS, hb, hd]
  by_cases hlast : i + 1 = m.length
  · have hdn : m.drop (i + 1) = [] := aN8 (by omega)
    rw [hdn, decide_eq_true hlast]
    unfold unm
    cases (x == 34) with
    | true => rfl
    | false =>
      cases (x == 92) with
      | true => rfl
      | false =>
        simp only [aNQ]
        have := ih (n - 1) (by omega) (i + 1) (acc ++ [x]) (by omega) (by omega) (by simp; omega)
        rw [this, hdn]
        simp [unm]
  · rw [decide_eq_false hlast]
    have hlt2 : i + 1 < m.length := by omega
    have hd2 := aNX hlt2
    have hy : v[i + 1 + 1]? = some m[i + 1] := by rw [hget (i + 1) hlt2, aNS hlt2]
    generalize hm2 : m[i + 1] = y at hd2 hy
    have w2 : IntKind.i64.wrap (((i + 1 + 1 : Nat) : Int) + (1 : Int)) = ((i + 2 + 1 : Nat) : Int) := by rw [wrap_i64 (by omega) (by omega)]; omega
    rw [hd2, unm]
    cases (x == 34) with
    | true => rfl
    | false =>
      cases (x == 92) with
      | true =>
        simp only [aNQ, aNP, bV hy, aNR, happ, w2]
        have := ih (n - 2) (by omega) (i + 2) (acc ++ [y]) (by omega) (by omega) (by simp; omega)
        rw [this]
        cases unm (m.drop (i + 2)) with
        | none => rfl
        | some o => simp
      | false =>
        simp only [aNQ]
        have := ih (n - 1) (by omega) (i + 1) (acc ++ [x]) (by omega) (by omega) (by simp; omega)
        rw [this, hd2]
        cases unm (y :: m.drop (i + 1 + 1)) with
        | none => rfl
        | some o => simp
theorem aKd {α : Type} (l : List α) (h : l ≠ []) : ∃ m x, l = m ++ [x] := ⟨l.dropLast, l.getLast h, (List.dropLast_concat_getLast h).symm⟩
theorem aFS {v : aA} (hl : v.length <= 100000) : nF v = some (unqS v) := by
  unfold nF unqS
  rw [pre1]
  match v, hl with
  | [], _ => rfl
  | [x], _ =>
    have : (match unq (([x] : aA).drop 1) with | some o => bif o.any ctlB then ([], 11) else (o, 0) | none => (([] : aA), (11 : Int))) = ([], 11) := rfl
    rw [this]
    show some (([] : aA), (11 : Int)) = _
    cases (([x] : aA).head? == some 34) <;> rfl
  | x :: y :: t, hl =>
    obtain ⟨m, z, hm⟩ := aKd (y :: t) (by simp)
    rw [hm] at hl ⊢
    have hlen : (x :: (m ++ [z])).length = m.length + 2 := by simp
    have e0 : decide ((((x :: (m ++ [z])).length : Nat) : Int) < (2 : Int)) = false := by rw [hlen]; simp; omega
    have wl : IntKind.i64.wrap ((((x :: (m ++ [z])).length : Nat) : Int) - (1 : Int)) = ((m.length + 1 : Nat) : Int) := by rw [wrap_i64 (by omega) (by omega)]; omega
    have hlast : (x :: (m ++ [z]))[m.length + 1]? = some z := by
      rw [List.getElem?_cons_succ, List.getElem?_append_right (aN3 _)]; simp
    have i0 : idx (x :: (m ++ [z])) (0 : Int) = some x := rfl
    simp only [e0, aNY, jH, i0, aNR, aNQ, wl]
    rw [show ((x.toNat : Int) != (34 : Int)) = !(x == 34) by rw [<- eV x 34]; rfl, show ((x :: (m ++ [z])).head? == some 34) = (x == 34) from rfl]
    cases hx : (x == 34) with
    | false => rfl
    | true =>
      simp only [aNV, aNY, jH, bV hlast, aNR, aNQ, aNP, aNZ, aN0]
      rw [show ((z.toNat : Int) != (34 : Int)) = !(z == 34) by rw [<- eV z 34]; rfl]
      cases hz : (z == 34) with
      | false =>
        have : unq (m ++ [z]) = none := by
          cases hu : unq (m ++ [z]) with
          | none => rfl
          | some o =>
            obtain ⟨m', he⟩ := vN _ _ hu
            have := (List.append_inj' he rfl).2
            injection this with this
            rw [this] at hz; cases hz
        rw [this]; rfl
      | true =>
        have hz' := eq_of_beq hz
        have hx' := eq_of_beq hx
        subst hz' hx'
        simp only [aNV, aNY, kQ, aD6, aNR, aKc (show ((34 : UInt8) :: (m ++ [34])).length <= maxLen by unfold maxLen; omega), aNQ]
        have hany : ((34 : UInt8) :: (m ++ [34])).any ctlB = m.any ctlB := by
          rw [aOe, List.any_append]
          show (false || (m.any ctlB || false)) = _
          simp
        rw [hany, yY, show (1 : Int) = ((0 + 1 : Nat) : Int) from rfl, aIL rfl hl m.length 0 [] (by omega) (aN4 _) (aN4 _), aN0]
        cases hu : unm m with
        | none => cases m.any ctlB <;> rfl
        | some o => dsimp only; rw [aD8 m o hu]; cases m.any ctlB <;> rfl
def endN : aA -> Nat
  | [] => 0
  | [x] => bif x == 34 then 0 else bif x == 92 then 2 else 1
  | x :: y :: r => bif x == 34 then 0 else bif x == 92 then 2 + endN r else 1 + endN (y :: r)
theorem aD9 : ∀ (w : aA), (unq w).isSome = decide (endN w + 1 = w.length)
  | [] => rfl
  | [x] => by
    unfold unq endN
    cases (x == 34) with
    | true => rfl
    | false => cases (x == 92) <;> rfl
  | x :: y :: r => by
    rw [unq, endN]
    cases (x == 34) with
    | true => simp
    | false =>
      cases (x == 92) with
      | true =>
        have := aD9 r
        simp only [aNQ, aNP, Option.isSome_map, this, aNT]
        rw [aN1, decide_eq_true_eq, decide_eq_true_eq]; omega
      | false =>
        have := aD9 (y :: r)
        simp only [aNQ, Option.isSome_map, this, aNT]
        rw [aN1, decide_eq_true_eq, decide_eq_true_eq]; omega
theorem aEa : ∀ (w : aA), endN w <= w.length + 1
  | [] => by simp [endN]
  | [x] => by
    unfold endN
    cases (x == 34) with
    | true => simp
    | false => cases (x == 92) <;> simp
  | x :: y :: r => by
    rw [endN]
    have h1 := aEa r
    have h2 := aEa (y :: r)
    rw [aNT] at h2
    cases (x == 34) with
    | true => simp
    | false => cases (x == 92) <;> simp <;> omega
theorem aIM {v : aA} (hl : v.length <= 100000) : ∀ (n i : Nat), v.length <= n + i -> i <= v.length + 1 -> aR (cZ v) (i : Int) = some ((i + endN (v.drop i) : Nat) : Int) := by
  intro n
  induction n using Nat.strongRecOn with
  | _ n ih =>
  intro i hn hi
  by_cases hlt : i < v.length
  · have hd := aNX hlt
    have hx := aNS hlt
    generalize hm : v[i] = x at hd hx
    have w1 : IntKind.i64.wrap ((i : Int) + (1 : Int)) = ((i + 1 : Nat) : Int) := by rw [wrap_i64 (by omega) (by omega)]; omega
    have w2 : IntKind.i64.wrap (((i + 1 : Nat) : Int) + (1 : Int)) = ((i + 2 : Nat) : Int) := by rw [wrap_i64 (by omega) (by omega)]; omega
    have hb : cZ v (i : Int) = bif x == 34 then some (.inr (i : Int)) else bif x == 92 then some (.inl ((i + 2 : Nat) : Int)) else some (.inl ((i + 1 : Nat) : Int)) := by
      unfold cZ
      simp only [aX hlt, jH, bV hx, aNR, aNP, w1, w2, show ((x.toNat : Int) == (92 : Int)) = (x == 92) from eV x 92]
      rw [show ((x.toNat : Int) != (34 : Int)) = !(x == 34) by rw [<- eV x 34]; rfl]
      cases (x == 34) <;> rfl
    rw [aS, hb, hd]
    have he : endN (x :: v.drop (i + 1)) = bif x == 34 then 0 else bif x == 92 then 2 + endN (v.drop (i + 2)) else 1 + endN (v.drop (i + 1)) := by
      by_cases h2 : i + 1 < v.length
      · have hd2 := aNX h2
        rw [hd2]; rfl
      · have h3 : v.drop (i + 1) = [] := aN8 (by omega)
        have h4 : v.drop (i + 2) = [] := aN8 (by omega)
        rw [h3, h4]; rfl
    rw [he]
    cases (x == 34) with
    | true => rfl
    | false =>
      cases (x == 92) with
      | true =>
        simp only [aNQ, aNP]
        rw [ih (n - 2) (by omega) (i + 2) (by omega) (by omega)]
        congr 2; omega
      | false =>
        simp only [aNQ]
        rw [ih (n - 1) (by omega) (i + 1) (by omega) (by omega)]
        congr 2; omega
  · have h3 : v.drop i = [] := aN8 (by omega)
    have hb : cZ v (i : Int) = some (.inr (i : Int)) := by
      unfold cZ
      rw [show decide ((i : Int) < (v.length : Int)) = false by simp; omega]; rfl
    rw [aS, hb, h3]; rfl
theorem aGU {v m : aA} (hv : v = 34 :: (m ++ [34])) (hl : v.length <= 100000) : ∀ (n i : Nat) (acc : aA), m.length <= n + i -> i <= m.length -> acc.length <= i -> ∀ o, unm (m.drop i) = some o ->
    aR (bL v) (acc, ((i + 1 : Nat) : Int)) = some (bif o.any ctlB then ([], 11) else (acc ++ o, 0)) := by
  have hlen : v.length = m.length + 2 := by rw [hv]; simp
  have wl : IntKind.i64.wrap ((v.length : Int) - (1 : Int)) = ((m.length + 1 : Nat) : Int) := by rw [wrap_i64 (by omega) (by omega)]; omega
  have hget : ∀ k, k < m.length -> v[k + 1]? = m[k]? := fun k hk => by
    rw [hv, List.getElem?_cons_succ, List.getElem?_append_left hk]
  have stop : ∀ (acc : aA), bL v (acc, ((m.length + 1 : Nat) : Int)) = some (.inr (acc, 0)) := fun acc => by
    unfold bL
    dsimp only
    rw [wl, bP]; rfl
  intro n
  induction n using Nat.strongRecOn with
  | _ n ih =>
  intro i acc hn hi hacc o ho
  by_cases hie : i = m.length
  · subst hie
    rw [aOl] at ho
    cases ho
    rw [aS, stop]
    simp
  have hlt : i < m.length := by omega
  have hd := aNX hlt
  have hx : v[i + 1]? = some m[i] := by rw [hget i hlt, aNS hlt]
  generalize hm : m[i] = x at hd hx
  have hcat : ∀ (y : UInt8), cat acc [y] = some (acc ++ [y]) := fun y => jG (by simp [maxLen]; omega)
  have w1 : IntKind.i64.wrap (((i + 1 : Nat) : Int) + (1 : Int)) = ((i + 1 + 1 : Nat) : Int) := by rw [wrap_i64 (by omega) (by omega)]; omega
  have w2 : IntKind.i64.wrap (((i + 1 + 1 : Nat) : Int) + (1 : Int)) = ((i + 2 + 1 : Nat) : Int) := by rw [wrap_i64 (by omega) (by omega)]; omega
  have slc1 : ∀ (k : Nat) (y : UInt8), v[k]? = some y -> slc v (k : Int) ((k + 1 : Nat) : Int) = some [y] := fun k y hk => by
    have hkl := aO hk
    rw [nY v k (k + 1) (by omega) (by omega), aN7, aN5, aNX hkl]
    rw [aNS hkl] at hk
    injection hk with hk
    rw [hk]; rfl
  rw [hd] at ho
  have hb : (x == 92) = false -> bL v (acc, ((i + 1 : Nat) : Int)) = bif ctlB x then some (.inr ([], 11)) else some (.inl (acc ++ [x], ((i + 1 + 1 : Nat) : Int))) := fun h92 => by
    unfold bL
    simp only [wl, aX (show i + 1 < m.length + 1 by omega), aNP, bV hx, aNR, show ((x.toNat : Int) == (92 : Int)) = (x == 92) from eV x 92, h92, aNQ, aA0, w1, slc1 _ _ hx, hcat]
  have hb2 : ∀ (y : UInt8), (x == 92) = true -> v[i + 1 + 1]? = some y -> bL v (acc, ((i + 1 : Nat) : Int)) = bif ctlB y then some (.inr ([], 11)) else some (.inl (acc ++ [y], ((i + 2 + 1 : Nat) : Int))) := fun y h92 hy => by
    unfold bL
    simp only [wl, aX (show i + 1 < m.length + 1 by omega), aNP, bV hx, aNR, show ((x.toNat : Int) == (92 : Int)) = (x == 92) from eV x 92, h92, aA0, w1, w2, bV hy, hcat]
    rw [show slc v ((i + 1 + 1 : Nat) : Int) ((i + 2 + 1 : Nat) : Int) = some [y] from slc1 (i + 1 + 1) y hy]
    simp only [aNR, hcat]
  by_cases hlast : i + 1 = m.length
  · have hdn : m.drop (i + 1) = [] := aN8 (by omega)
    rw [hdn] at ho
    unfold unm at ho
    cases h34 : (x == 34) with
    | true => rw [h34] at ho; cases ho
    | false =>
      cases h92 : (x == 92) with
      | true => rw [h34, h92] at ho; cases ho
      | false =>
        rw [h34, h92] at ho
        cases ho
        rw [aS, hb h92, show ([x] : aA).any ctlB = ctlB x by simp]
        cases ctlB x with
        | true => rfl
        | false =>
          simp only [aNQ]
          have := ih (n - 1) (by omega) (i + 1) (acc ++ [x]) (by omega) (by omega) (by simp; omega) [] (by rw [hdn]; rfl)
          rw [this]
          simp
  · have hlt2 : i + 1 < m.length := by omega
    have hd2 := aNX hlt2
    have hy : v[i + 1 + 1]? = some m[i + 1] := by rw [hget (i + 1) hlt2, aNS hlt2]
    generalize hm2 : m[i + 1] = y at hd2 hy
    rw [hd2, unm] at ho
    cases h34 : (x == 34) with
    | true => rw [h34] at ho; cases ho
    | false =>
      rw [h34, aNQ] at ho
      cases h92 : (x == 92) with
      | true =>
        rw [h92, aNP] at ho
        cases hu : unm (m.drop (i + 1 + 1)) with
        | none => rw [hu] at ho; cases ho
        | some o' =>
          rw [hu] at ho
          cases ho
          rw [aS, hb2 y h92 hy, aOe]
          cases ctlB y with
          | true => rfl
          | false =>
            simp only [aNQ, aOm]
            have := ih (n - 2) (by omega) (i + 2) (acc ++ [y]) (by omega) (by omega) (by simp; omega) o' hu
            rw [this]
            simp
      | false =>
        rw [h92, aNQ] at ho
        cases hu : unm (y :: m.drop (i + 1 + 1)) with
        | none => rw [hu] at ho; cases ho
        | some o' =>
          rw [hu] at ho
          cases ho
          rw [aS, hb h92, aOe]
          cases ctlB x with
          | true => rfl
          | false =>
            simp only [aNQ, aOm]
            have := ih (n - 1) (by omega) (i + 1) (acc ++ [x]) (by omega) (by omega) (by simp; omega) o' (by rw [hd2]; exact hu)
            rw [this]
            simp
theorem aBN {v : aA} (hl : v.length <= 100000) : fV v = some (unqS v) := by
  unfold fV unqS
  rw [pre1]
  cases v with
  | nil => rfl
  | cons x w =>
    have i0 : idx (x :: w) (0 : Int) = some x := rfl
    simp only [show ((x :: w) == ([] : aA)) = false from rfl, aNY, jH, i0, aNR, aNQ]
    rw [show ((x.toNat : Int) != (34 : Int)) = !(x == 34) by rw [<- eV x 34]; rfl, show ((x :: w).head? == some 34) = (x == 34) from rfl]
    cases hx : (x == 34) with
    | false => rfl
    | true =>
      have hx' := eq_of_beq hx
      subst hx'
      simp only [aNV, aNY, kQ, aNQ, aNP, aNZ, aN0]
      have hE : iU (34 :: w) (0 : Int) = some (bif decide (endN w < w.length) then ((endN w + 2 : Nat) : Int) else (-1 : Int)) := by
        unfold iU
        have hw := aEa w
        rw [aNT] at hl
        rw [show IntKind.i64.wrap ((0 : Int) + (1 : Int)) = ((1 : Nat) : Int) from rfl, aIM (by rw [aNT]; omega) (w.length + 1) 1 (by rw [aNT]; omega) (by rw [aNT]; omega), aNR, aNZ, aN0]
        have e : decide (((1 + endN w : Nat) : Int) ≥ (((34 :: w : aA).length : Nat) : Int)) = !decide (endN w < w.length) := by
          rw [aN1]; simp; omega
        rw [e]
        cases hlt : decide (endN w < w.length) with
        | true =>
          simp only [aNV, aNQ, aNP]
          rw [wrap_i64 (by omega) (by omega)]; congr 1; omega
        | false => rfl
      rw [hE, aNR]
      have e2 : ((bif decide (endN w < w.length) then ((endN w + 2 : Nat) : Int) else (-1 : Int)) != (((34 :: w : aA).length : Nat) : Int)) = !(unq w).isSome := by
        rw [aD9]
        by_cases h1 : endN w + 1 = w.length
        · rw [decide_eq_true h1, decide_eq_true (by omega), aNP, aNT, <- h1]; simp; omega
        · rw [decide_eq_false h1]
          by_cases h2 : endN w < w.length
          · rw [decide_eq_true h2, aNP, aNT]; simp; omega
          · rw [decide_eq_false h2, aNQ, aNT]; simp; omega
      rw [e2]
      cases hu : unq w with
      | none => rfl
      | some o =>
        obtain ⟨m, rfl⟩ := vN w o hu
        rw [yY] at hu
        simp only [Option.isSome_some, aNV, aNQ]
        rw [show (1 : Int) = ((0 + 1 : Nat) : Int) from rfl, aGU rfl hl m.length 0 [] (by omega) (aN4 _) (aN4 _) o (by rw [aN0]; exact hu)]
        rfl
theorem aIN {v : aA} : (unqS v).1.length <= v.length := by
  unfold unqS
  cases aY v [34] with
  | false => simp
  | true =>
    rw [aNP]
    cases hu : unq (v.drop 1) with
    | none => simp
    | some o =>
      obtain ⟨m, hm⟩ := vN _ o hu
      rw [hm, yY] at hu
      have h1 := aD7 m o hu
      have h2 := congrArg List.length hm
      simp at h2
      dsimp only
      cases o.any ctlB with
      | true => simp
      | false => simp; omega
theorem tF (p : UInt8 -> Bool) : ∀ (s : aA), jF p (jF p s) = jF p s
  | [] => rfl
  | x :: t => by
    unfold jF
    rw [aN9]
    cases hx : p x with
    | true => simp only [if_true]; exact tF p t
    | false => simp only [Bool.false_eq_true, if_false]; rw [aN9, hx]; simp
theorem aFT (p : UInt8 -> Bool) (s : aA) : mS p (mS p s) = mS p s := by
  unfold mS
  rw [List.reverse_reverse]
  have := tF p s.reverse
  unfold jF at this
  rw [this]
theorem aFU (s : aA) : trim (jF oD s) = trim s := by
  unfold trim
  rw [aAZ, tF]
theorem aFV (s : aA) : trim (mS oD s) = trim s := by
  unfold trim
  rw [aFT]
theorem aBO {p : UInt8 -> Bool} {c : UInt8} (hc : p c = false) : ∀ (a b : aA), jF p (a ++ c :: b) = jF p a ++ c :: b
  | [], b => by unfold jF; rw [aOc, aN9, hc]; rfl
  | x :: a, b => by
    unfold jF
    rw [aOb, aN9, aN9]
    cases p x with
    | true => exact aBO hc a b
    | false => rfl
theorem aIO {p : UInt8 -> Bool} {c : UInt8} (hc : p c = false) (a b : aA) : mS p (a ++ c :: b) = a ++ c :: mS p b := by
  unfold mS
  have := aBO hc b.reverse a.reverse
  unfold jF at this
  rw [show (a ++ c :: b).reverse = b.reverse ++ c :: a.reverse by simp, this]
  simp
theorem aBP {p : UInt8 -> Bool} {c : UInt8} {s : aA} (h : s.contains c = false) : (jF p s).contains c = false := by
  have hs : (jF p s).Sublist s := List.dropWhile_sublist p
  cases hh : (jF p s).contains c with
  | false => rfl
  | true =>
    have := hs.subset (List.contains_iff_mem.1 hh)
    rw [List.contains_iff_mem.2 this] at h; cases h
theorem aIP {p : UInt8 -> Bool} {c : UInt8} {s : aA} (h : s.contains c = false) : (mS p s).contains c = false := by
  have h1 : s.reverse.contains c = false := by
    cases hh : s.reverse.contains c with
    | false => rfl
    | true => rw [List.contains_iff_mem.2 (List.mem_reverse.1 (List.contains_iff_mem.1 hh))] at h; cases h
  have h2 := aBP (p := p) h1
  unfold mS
  cases hh : (s.reverse.dropWhile p).reverse.contains c with
  | false => rfl
  | true =>
    have := List.mem_reverse.1 (List.contains_iff_mem.1 hh)
    unfold jF at h2
    rw [List.contains_iff_mem.2 this] at h2; cases h2
theorem aGV {c : UInt8} : ∀ {s : aA}, s.contains c = false -> cutC c s = (s, [], false)
  | [], _ => rfl
  | x :: s, h => by
    rw [aOf, Bool.or_eq_false_iff, aOn (a := c)] at h
    rw [cutC, h.1, aGV h.2]; rfl
theorem xU (c : UInt8) : ∀ (s : aA), (cutC c s).2.2 = true -> (cutC c s).1.contains c = false
  | [], h => by cases h
  | x :: s, h => by
    rw [cutC] at h ⊢
    cases hx : (x == c) with
    | true => rfl
    | false =>
      rw [hx, aNQ] at h
      rw [aNQ, aOf, xU c s h, aOn (a := c), hx]; rfl
theorem aC0 (c : UInt8) : ∀ (s : aA), (cutC c s).2.2 = false -> s.contains c = false
  | [], _ => rfl
  | x :: s, h => by
    rw [cutC] at h
    cases hx : (x == c) with
    | true => rw [hx] at h; cases h
    | false =>
      rw [hx, aNQ] at h
      rw [aOf, aC0 c s h, aOn (a := c), hx]; rfl
theorem aIQ {c : UInt8} (hc : oD c = false) (s : aA) : (cutC c (trim s)).2.2 = (cutC c s).2.2 /\ ((cutC c s).2.2 = true -> trim (cutC c (trim s)).1 = trim (cutC c s).1 /\ trim (cutC c (trim s)).2.1 = trim (cutC c s).2.1) := by
  cases hh : (cutC c s).2.2 with
  | false =>
    have h0 := aC0 c s hh
    have h1 : (trim s).contains c = false := aBP (aIP h0)
    rw [aGV h1]
    exact ⟨rfl, fun h => by cases h⟩
  | true =>
    have hb := vM c s hh
    have hp := xU c s hh
    generalize (cutC c s).1 = a at *
    generalize (cutC c s).2.1 = b at *
    have ht : trim s = jF oD a ++ c :: mS oD b := by
      unfold trim
      rw [hb, aIO hc, aBO hc]
    rw [ht, aD1 c _ (aBP hp)]
    exact ⟨rfl, fun _ => ⟨aFU a, aFV b⟩⟩
theorem xA {s : aA} (hs : s.length <= 10000) : ∃ r, iJ s = some r /\ aZ s = some r /\ PSm s.length r /\ r.length <= s.length + 1 := by
  obtain ⟨hl1, hl2⟩ := yV 59 s.length s (aN3 _)
  have fin : (∃ (r : Unit × List aE) (r' : List aE), aR (cD (Lib.split s [59])) ((0 : Int), ([] : List aE)) = some r /\ aR (dD (Lib.split s [59])) (([] : List aE), (0 : Int)) = some r' /\ (r = ((), r') /\ PSm s.length r' /\ r'.length <= s.length + 1)) ->
      ∃ r, iJ s = some r /\ aZ s = some r /\ PSm s.length r /\ r.length <= s.length + 1 := by
    rintro ⟨r, r', h1, h2, h3, h4, h5⟩
    subst h3
    refine ⟨r', ?_, ?_, h4, h5⟩
    · unfold iJ eQ
      rw [yX 59 (by omega), aNR, h1]; rfl
    · unfold aZ
      rw [show (59 : Int) = ((59 : UInt8).toNat : Int) from rfl, wN 59 (by omega), aNR, h2]; rfl
  refine fin (yW (Lib.split s [59]) _ (fun i acc => acc.length <= i /\ PSm s.length acc) (fun i x acc hx hinv => ?_) (fun acc hinv => ?_) [] ⟨by simp, fun p hp => by cases hp⟩)
  · have hxl := hl2 x (aOg hx)
    have hlt := aO hx
    have hc := wK 61 x
    have ht := aBG x
    have hc2 := wK 61 (trim x)
    have hta := aBG (cutC 61 x).1
    have htb := aBG (cutC 61 x).2.1
    have big : ∀ {n : Nat}, n <= x.length -> n <= maxLen := fun h => by unfold maxLen; omega
    have e1 : cM x (61 : Int) = some (cutC 61 x) := xT 61 (big (aN3 _))
    have e2 : ∀ (a : aA), dO (trim x) [61] = some (cutC 61 (trim x)) := fun _ => yQ 61 (big (by omega))
    have hU := aBN (v := trim (cutC 61 x).2.1) (by omega)
    have hUl := aIN (v := trim (cutC 61 x).2.1)
    have happ : ∀ (p : aE), app 32 acc [p] = some (acc ++ [p]) := fun p => n9 (by simp; omega) (by omega)
    unfold cD dD mA
    simp only [aX hlt, bV hx, aNP, aNR, e1, wJ (big hc.1), wJ (big hc.2), hU]
    rw [bM hlt (by unfold maxLen; omega)]
    obtain ⟨k1, k2⟩ := aIQ (c := 61) rfl x
    cases hn : (x == ([] : aA)) with
    | true =>
      have : x = [] := eq_of_beq hn
      subst this
      refine ⟨acc, rfl, ?_, by omega, hinv.2⟩
      cases ((unqS (trim (cutC 61 []).2.1)).2 == 0) <;> rfl
    | false =>
      simp only [aNY, aNP, aBH (big (aN3 _)), aNR, e2 x, aBH (show (cutC 61 (trim x)).1.length <= maxLen from big (by omega)), aBH (show (cutC 61 (trim x)).2.1.length <= maxLen from big (by omega)), k1]
      cases hi : (cutC 61 x).2.2 with
      | false =>
        refine ⟨acc, rfl, ?_, by omega, hinv.2⟩
        cases ((unqS (trim (cutC 61 x).2.1)).2 == 0) <;> rfl
      | true =>
        obtain ⟨q1, q2⟩ := k2 hi
        rw [q1, q2]
        simp only [aNV, aNQ, aNP]
        cases hz : (trim (cutC 61 x).1 == ([] : aA)) with
        | true =>
          refine ⟨acc, rfl, ?_, by omega, hinv.2⟩
          cases ((unqS (trim (cutC 61 x).2.1)).2 == 0) <;> rfl
        | false =>
          simp only [aNQ, aNY, aNP, aFS (show (trim (cutC 61 x).2.1).length <= 100000 by omega), aNR]
          cases ((unqS (trim (cutC 61 x).2.1)).2 == 0) with
          | true =>
            simp only [aNP, happ, aNR]
            exact ⟨_, rfl, rfl, by simp; omega, hinv.2.snoc (by show (trim _).length <= _; omega) (by show (unqS _).1.length <= _; omega)⟩
          | false =>
            simp only [aNQ, happ, aNR]
            exact ⟨_, rfl, rfl, by simp; omega, hinv.2.snoc (by show (trim _).length <= _; omega) (by show (trim _).length <= _; omega)⟩
  · unfold cD dD
    simp only [bP]
    exact ⟨((), acc), acc, rfl, rfl, rfl, hinv.2, by omega⟩
theorem aKe {s t : aA} {i : Nat} (h : i + t.length <= s.length) : ∃ x, slc s (i : Int) ((i + t.length : Nat) : Int) = some x /\ (x == t) = Lib.occAt s t i := by
  refine ⟨_, nY s i (i + t.length) (by omega) h, ?_⟩
  rw [aN7, aN5]
  unfold Lib.occAt
  rw [aN1, beq_iff_eq, List.isPrefixOf_iff_prefix, List.prefix_iff_eq_take]
  exact ⟨fun h => h.symm, fun h => h.symm⟩
theorem aGW {s t : aA} (hs : s.length <= 100000) (ht : t.length <= 1000) (ht0 : t ≠ []) : bK s t = some (Lib.index s t) := by
  unfold bK
  have w1 : ∀ i : Nat, i <= s.length -> IntKind.i64.wrap ((i : Int) + (t.length : Int)) = ((i + t.length : Nat) : Int) := fun i hi => by rw [wrap_i64 (by omega) (by omega)]; omega
  have w2 : ∀ i : Nat, i <= s.length -> IntKind.i64.wrap ((i : Int) + (1 : Int)) = ((i + 1 : Nat) : Int) := fun i hi => by rw [wrap_i64 (by omega) (by omega)]; omega
  have hb : ∀ i : Nat, i <= s.length -> fF s t (i : Int) = bif decide (i + t.length <= s.length) then (bif Lib.occAt s t i then some (.inr (i : Int)) else some (.inl ((i + 1 : Nat) : Int))) else some (.inr (-1 : Int)) := by
    intro i hi
    unfold fF
    rw [w1 i hi, w2 i hi]
    have e : decide (((i + t.length : Nat) : Int) <= (s.length : Int)) = decide (i + t.length <= s.length) := by
      rw [aN1, decide_eq_true_eq, decide_eq_true_eq]; omega
    rw [e]
    by_cases h : i + t.length <= s.length
    · obtain ⟨x, h1, h2⟩ := aKe h
      rw [decide_eq_true h, aNP, aNP, h1, aNR, h2]
    · rw [decide_eq_false h]; rfl
  rcases Lib.index_spec s t with ⟨h1, h2⟩ | ⟨i, h1, h2, h3, h4⟩
  · rw [h1]
    have hsm : ∀ (n i : Nat), s.length < n + i -> i <= s.length -> aR (fF s t) (i : Int) = some (-1 : Int) := by
      intro n
      induction n with
      | zero => intro i hn hi; omega
      | succ n ih =>
        intro i hn hi
        rw [aS, hb i hi]
        by_cases h : i + t.length <= s.length
        · have htl : 1 <= t.length := by cases t with | nil => exact absurd rfl ht0 | cons => simp
          rw [decide_eq_true h, h2 i hi]
          exact ih (i + 1) (by omega) (by omega)
        · rw [decide_eq_false h]; rfl
    exact hsm (s.length + 1) 0 (by omega) (aN4 _)
  · rw [h1]
    have hr := (Lib.occAt_room h3).resolve_right ht0
    rw [mG i fun j hj => ?_, aS, hb i h2, decide_eq_true hr, h3]
    · rfl
    · rw [hb j (by omega), h4 j hj]
      rw [decide_eq_true (by omega)]; rfl
def hasW (s w : aA) : Bool := decide (Lib.index s w ≥ (0 : Int))
theorem oX {s : aA} (a b : UInt8) (t : aA) (hs : s.length <= 100000) : bT s (a :: b :: t) = some (hasW s (a :: b :: t)) := by
  unfold bT strings_Index
  show ((chk (s.length < 4294967281) (some (Lib.index s (a :: b :: t)))).bind _) = _
  rw [d8 (by omega)]; rfl
def dpB (b : UInt8) : Bool := (b ≥ 48 && b <= 57) || b == 46
def digS (s w : aA) : aA := bif hasW s w then tw dpB (s.drop ((Lib.index s w).toNat + w.length)) else []
theorem aC1 {s w : aA} (h : hasW s w = true) : ∃ i : Nat, Lib.index s w = (i : Int) /\ i + w.length <= s.length := by
  have h0 := of_decide_eq_true h
  refine ⟨(Lib.index s w).toNat, by omega, ?_⟩
  have := Lib.index_room s w (by omega)
  omega
theorem aKf {s : aA} (a b : UInt8) (t : aA) (hs : s.length <= 100000) : ∃ x, dO s (a :: b :: t) = some x /\ x.2.1 = bif hasW s (a :: b :: t) then s.drop ((Lib.index s (a :: b :: t)).toNat + (a :: b :: t).length) else [] := by
  unfold dO kA gT strings_Index
  show ∃ x, Option.bind ((chk (s.length < 4294967281) (some (Lib.index s (a :: b :: t)))).bind _) _ = some x /\ _
  rw [d8 (by omega), aNR]
  show ∃ x, Option.bind (bif hasW s (a :: b :: t) then _ else _) _ = some x /\ _
  cases hh : hasW s (a :: b :: t) with
  | false => exact ⟨_, rfl, rfl⟩
  | true =>
    obtain ⟨i, h1, h2⟩ := aC1 hh
    rw [h1]
    rw [aNP, aNP, mF s i (by omega), aNR]
    have w : IntKind.i64.wrap ((i : Int) + (((a :: b :: t).length : Nat) : Int)) = ((i + (a :: b :: t).length : Nat) : Int) := by rw [wrap_i64 (by omega) (by omega)]; omega
    rw [w, jX s _ h2, aNR, aNR]
    exact ⟨_, rfl, rfl⟩
theorem aEb {s : aA} {w : aA} (hs : s.length <= 100000) (hw : w.length <= 1000) (hw0 : w ≠ []) : bF s w = some (digS s w) := by
  unfold bF digS
  rw [aGW hs hw hw0, aNR]
  have e : decide (Lib.index s w < (0 : Int)) = !hasW s w := by
    unfold hasW
    rw [aN1]; simp
  rw [e]
  cases hh : hasW s w with
  | false => rfl
  | true =>
    obtain ⟨i, h1, h2⟩ := aC1 hh
    rw [h1, aNV, aNQ, aNP]
    have w1 : IntKind.i64.wrap ((i : Int) + (w.length : Int)) = ((i + w.length : Nat) : Int) := by rw [wrap_i64 (by omega) (by omega)]; omega
    have hb : ∀ j : Nat, dS s (j : Int) = bif (match s[j]? with | some b => dpB b | none => false) then some (.inl (IntKind.i64.wrap ((j : Int) + (1 : Int)))) else some (.inr (j : Int)) := by
      intro j
      unfold dS
      rcases aOd j s.length with hlt | hge
      · have hx := aNS hlt
        generalize s[j] = x at hx
        rw [aX hlt, hx]
        simp only [jH, bV hx, aNR, aNP, aOi]
        have k1 : decide ((x.toNat : Int) ≥ (48 : Int)) = decide (x ≥ 48) := by rw [aN1, decide_eq_true_eq, decide_eq_true_eq, ge_iff_le, ge_iff_le, UInt8.le_iff_toNat_le]; show _ ↔ 48 <= _; omega
        have k2 : decide ((x.toNat : Int) <= (57 : Int)) = decide (x <= 57) := by rw [aN1, decide_eq_true_eq, decide_eq_true_eq, UInt8.le_iff_toNat_le]; show _ ↔ _ <= 57; omega
        rw [k1, show dpB x = ((decide (x ≥ 48) && decide (x <= 57)) || x == 46) from rfl]
        cases decide (x ≥ 48) with
        | true =>
          simp only [jH, bV hx, aNR, aNP, k2, aOi]
          cases decide (x <= 57) with
          | true => rfl
          | false =>
            simp only [aNY, jH, bV hx, aNR, aNQ, aOm, show ((x.toNat : Int) == (46 : Int)) = (x == 46) from eV x 46]
        | false =>
          simp only [aA2, aNR, aNQ, aNY, jH, bV hx, Bool.false_and, aOm, show ((x.toNat : Int) == (46 : Int)) = (x == 46) from eV x 46]
      · have hx : s[j]? = none := List.getElem?_eq_none hge
        rw [show decide ((j : Int) < (s.length : Int)) = false by simp; omega, hx]; rfl
    rw [w1, oV dpB (body := dS s) (fun n => (n : Int)) (i + w.length) h2 (fun j x hx hp => ?_) (fun j hj hx => ?_), aNR, aNW]
    · have hl := nM dpB (s.drop (i + w.length))
      rw [aNU] at hl
      rw [nY s _ _ (by omega) (by omega), aNR, aN7, aN5, oU]
    · rw [hb, hx]
      dsimp only
      rw [hp, aNP, bM (aO hx) (by unfold maxLen; omega)]
    · rw [hb]
      cases hx' : s[j]? with
      | none => rfl
      | some b => dsimp only; rw [hx b hx', aNQ]
def uA : aA := [77, 83, 73, 69]
def kR : aA := [77, 111, 122, 105, 108, 108, 97]
def aBQ : aA := [77, 79, 90, 73, 76, 76, 65]
def aC2 : aA := [79, 84, 72, 69, 82]
def agB (s : aA) : aA × aA := bif hasW s uA then (uA, digS s [77, 83, 73, 69, 32]) else bif hasW s kR then (aBQ, digS s [77, 111, 122, 105, 108, 108, 97, 47]) else (aC2, [])
def agO (s : aA) : aA := bif hasW s [87, 105, 110, 100, 111, 119, 115] then [87, 73, 78] else bif hasW s [77, 97, 99] then [77, 65, 67] else bif hasW s [88, 49, 49] then [85, 78, 73, 88] else aC2
def agS (s : aA) : aA × aA × aA := ((agB s).1, (agB s).2, agO s)
theorem aJG : bH [48, 49, 50, 51, 52, 53, 54, 55, 56, 57, 46] = some (uQ dpB, true) := by
  unfold bH
  exact l5.2 ⟨12, by kernel_rfl⟩
theorem aFW {r : aA} (hr : r.length <= 100000) : ((cL r ([48, 49, 50, 51, 52, 53, 54, 55, 56, 57, 46] : aA)).bind fun x8 => slc r 0 (IntKind.i64.wrap ((r.length : Int) - (x8.length : Int)))) = some (tw dpB r) := by
  rw [pS dpB (by decide) aJG, aNR]
  have hl := nM dpB r
  have e : IntKind.i64.wrap ((r.length : Int) - ((jF dpB r).length : Int)) = ((tw dpB r).length : Int) := by
    have : (jF dpB r).length = (dw dpB r).length := rfl
    rw [wrap_i64 (by omega) (by omega)]; omega
  rw [e, mF r _ (by omega), oU]
theorem aE1 {s : aA} (a b : UInt8) (t : aA) (hs : s.length <= 100000) (n : aA) : ((dO s (a :: b :: t)).bind fun x7 =>
        (cL (x7.2.1) ([48, 49, 50, 51, 52, 53, 54, 55, 56, 57, 46] : aA)).bind fun x8 =>
        (slc (x7.2.1) 0 (IntKind.i64.wrap (((x7.2.1).length : Int) - (x8.length : Int)))).bind fun x9 =>
        (some (.inr (n, x9)) : Option ((aA × aA × Int) ⊕ (aA × aA)))) = some (.inr (n, digS s (a :: b :: t))) := by
  obtain ⟨x, h1, h2⟩ := aKf a b t hs
  rw [h1, aNR, h2]
  have hr : (bif hasW s (a :: b :: t) then s.drop ((Lib.index s (a :: b :: t)).toNat + (a :: b :: t).length) else []).length <= 100000 := by
    cases hasW s (a :: b :: t) with
    | true => rw [aNP, aNU]; omega
    | false => simp
  have := aFW hr
  rw [pS dpB (by decide) aJG, aNR] at this ⊢
  rw [this, aNR]
  unfold digS
  cases hasW s (a :: b :: t) <;> rfl
theorem aIR {s : aA} (hs : s.length <= 100000) : oP s = some (agS s) := by
  unfold oP
  have h1 : aR (iQ s) (([79, 84, 72, 69, 82] : aA), ([] : aA), (0 : Int)) = some (agB s) := by
    have b0 : iQ s (([79, 84, 72, 69, 82] : aA), ([] : aA), (0 : Int)) = bif hasW s uA then some (.inr (uA, digS s [77, 83, 73, 69, 32])) else some (.inl (([79, 84, 72, 69, 82] : aA), ([] : aA), (1 : Int))) := by
      show ((bT s uA).bind _) = _
      rw [show bT s uA = some (hasW s uA) from oX 77 83 [73, 69] hs, aNR]
      cases hasW s uA with
      | false => rfl
      | true => exact aE1 77 83 [73, 69, 32] hs _
    have b1 : iQ s (([79, 84, 72, 69, 82] : aA), ([] : aA), (1 : Int)) = bif hasW s kR then some (.inr (aBQ, digS s [77, 111, 122, 105, 108, 108, 97, 47])) else some (.inl (([79, 84, 72, 69, 82] : aA), ([] : aA), (2 : Int))) := by
      show ((bT s kR).bind _) = _
      rw [show bT s kR = some (hasW s kR) from oX 77 111 [122, 105, 108, 108, 97] hs, aNR]
      cases hasW s kR with
      | false => rfl
      | true => exact aE1 77 111 [122, 105, 108, 108, 97, 47] hs _
    have b2 : iQ s (([79, 84, 72, 69, 82] : aA), ([] : aA), (2 : Int)) = some (.inr (aC2, [])) := rfl
    rw [aS, b0]
    unfold agB
    cases hasW s uA with
    | true => rfl
    | false =>
      show aR _ _ = _
      rw [aS, b1]
      cases hasW s kR with
      | true => rfl
      | false =>
        show aR _ _ = _
        rw [aS, b2]; rfl
  have h2 : aR (gR s) (([79, 84, 72, 69, 82] : aA), (0 : Int)) = some (agO s) := by
    have b0 : gR s (([79, 84, 72, 69, 82] : aA), (0 : Int)) = bif hasW s [87, 105, 110, 100, 111, 119, 115] then some (.inr [87, 73, 78]) else some (.inl (([79, 84, 72, 69, 82] : aA), (1 : Int))) := by
      show ((bT s [87, 105, 110, 100, 111, 119, 115]).bind _) = _
      rw [oX 87 105 [110, 100, 111, 119, 115] hs, aNR]; rfl
    have b1 : gR s (([79, 84, 72, 69, 82] : aA), (1 : Int)) = bif hasW s [77, 97, 99] then some (.inr [77, 65, 67]) else some (.inl (([79, 84, 72, 69, 82] : aA), (2 : Int))) := by
      show ((bT s [77, 97, 99]).bind _) = _
      rw [oX 77 97 [99] hs, aNR]; rfl
    have b2 : gR s (([79, 84, 72, 69, 82] : aA), (2 : Int)) = bif hasW s [88, 49, 49] then some (.inr [85, 78, 73, 88]) else some (.inl (([79, 84, 72, 69, 82] : aA), (3 : Int))) := by
      show ((bT s [88, 49, 49]).bind _) = _
      rw [oX 88 49 [49] hs, aNR]; rfl
    have b3 : gR s (([79, 84, 72, 69, 82] : aA), (3 : Int)) = some (.inr aC2) := rfl
    rw [aS, b0]
    unfold agO
    cases hasW s [87, 105, 110, 100, 111, 119, 115] with
    | true => rfl
    | false =>
      show aR _ _ = _
      rw [aS, b1]
      cases hasW s [77, 97, 99] with
      | true => rfl
      | false =>
        show aR _ _ = _
        rw [aS, b2]
        cases hasW s [88, 49, 49] with
        | true => rfl
        | false =>
          show aR _ _ = _
          rw [aS, b3]; rfl
  rw [h1, aNR, h2]; rfl
theorem aEc {s : aA} (hs : s.length <= 100000) : gX s = some (agS s) := by
  unfold gX agS agB agO
  have a : ∀ w : aA, w.length <= 1000 -> w ≠ [] -> bK s w = some (Lib.index s w) := fun w h1 h2 => aGW hs h1 h2
  have d : ∀ w : aA, w.length <= 1000 -> w ≠ [] -> bF s w = some (digS s w) := fun w h1 h2 => aEb hs h1 h2
  rw [a [87, 105, 110, 100, 111, 119, 115] (by simp) (by simp), a [77, 83, 73, 69] (by simp) (by simp), a [77, 111, 122, 105, 108, 108, 97] (by simp) (by simp), a [77, 97, 99] (by simp) (by simp), a [88, 49, 49] (by simp) (by simp), d [77, 83, 73, 69, 32] (by simp) (by simp), d [77, 111, 122, 105, 108, 108, 97, 47] (by simp) (by simp)]
  simp only [aNR]
  show (bif hasW s _ then (bif hasW s uA then _ else (bif hasW s kR then _ else _)) else (bif hasW s _ then (bif hasW s uA then _ else (bif hasW s kR then _ else _)) else (bif hasW s _ then (bif hasW s uA then _ else (bif hasW s kR then _ else _)) else (bif hasW s uA then _ else (bif hasW s kR then _ else _))))) = _
  cases hasW s [87, 105, 110, 100, 111, 119, 115] <;> cases hasW s [77, 97, 99] <;> cases hasW s [88, 49, 49] <;> cases hasW s uA <;> cases hasW s kR <;> rfl
structure ESm (e : aL) : Prop where
  agent : e.Agent.length <= 10000
  cookie : e.Cookie.length <= 10000
  query : e.Query.length <= 10000
  language : e.Language.length <= 10000
noncomputable def aEd (s : aA) : List aE := (iJ s).getD []
noncomputable def yZ (s : aA) : List aE := (kC s).getD []
noncomputable def aC3 (s : aA) : List aA := (fZ s).getD []
theorem aE2 {s : aA} (hs : s.length <= 10000) : iJ s = some (aEd s) /\ aZ s = some (aEd s) /\ (aEd s).length <= maxLen := by
  obtain ⟨r, h1, h2, _, h3⟩ := xA hs
  unfold aEd
  rw [h1]
  exact ⟨rfl, h2, by show r.length <= _; unfold maxLen; omega⟩
theorem aC4 {s : aA} (hs : s.length <= 10000) : kC s = some (yZ s) /\ bE s = some (yZ s) /\ (yZ s).length <= maxLen := by
  obtain ⟨r, h1, h2, _, h3⟩ := aA4 hs
  unfold yZ
  rw [h1]
  exact ⟨rfl, h2, by show r.length <= _; unfold maxLen; omega⟩
theorem aE3 {s : aA} (hs : s.length <= 10000) : fZ s = some (aC3 s) /\ aT s = some (aC3 s) /\ (aC3 s).length <= maxLen := by
  obtain ⟨r, h1, h2, h3⟩ := aAC hs
  unfold aC3
  rw [h1]
  exact ⟨rfl, h2, by show r.length <= _; unfold maxLen; omega⟩
def agK (a : aA × aA × aA) (k : aA) : aA := bif k == ([98, 114, 111, 119, 115, 101, 114] : aA) then a.1 else bif k == ([118, 101, 114, 115, 105, 111, 110] : aA) then a.2.1 else bif k == ([111, 115] : aA) then a.2.2 else []
def sme (s : aA) : aA × Bool := (s, !(s == ([] : aA)))
def aGX : aA := [72, 84, 84, 80, 95, 72, 79, 83, 84]
def nREF : aA := [72, 84, 84, 80, 95, 82, 69, 70, 69, 82, 69, 82]
def nUA : aA := [72, 84, 84, 80, 95, 85, 83, 69, 82, 95, 65, 71, 69, 78, 84]
def aGY : aA := [72, 84, 84, 80, 95, 67, 79, 79, 75, 73, 69]
def aC5 : aA := [81, 85, 69, 82, 89, 95, 83, 84, 82, 73, 78, 71]
def aGZ : aA := [72, 84, 84, 80, 95, 65, 67, 67, 69, 80, 84, 95, 76, 65, 78, 71, 85, 65, 71, 69]
def aFX (l : List aA) (k : aA) : aA × Bool := bif hasS l (kO k) then ([116, 114, 117, 101], true) else ([102, 97, 108, 115, 101], true)
noncomputable def valS (e : aL) (n k : aA) : aA × Bool :=
  bif n == aGX then (bif k == ([] : aA) then sme e.Host else ([], false)) else
  bif n == nREF then (bif k == ([] : aA) then sme e.Referer else ([], false)) else
  bif n == nUA then (bif k == ([] : aA) then sme e.Agent else sme (agK (agS e.Agent) k)) else
  bif n == aGY then (bif k == ([] : aA) then sme e.Cookie else aCY (aEd e.Cookie) k) else
  bif n == aC5 then (bif k == ([] : aA) then sme e.Query else aCY (yZ e.Query) k) else
  bif n == aGZ then (bif k == ([] : aA) then sme e.Language else aFX (aC3 e.Language) k) else ([], false)
theorem ag_map (a b c k : aA) : mget ([] : aA) (mins (mins (mins ([] : List (aA × aA)) ([98, 114, 111, 119, 115, 101, 114] : aA) a) ([118, 101, 114, 115, 105, 111, 110] : aA) b) ([111, 115] : aA) c) k = agK (a, b, c) k := rfl
theorem aIS {e : aL} (he : ESm e) {n k : aA} (hk : k.length <= maxLen) : iC e n k = some (valS e n k) := by
  unfold iC valS
  rw [show tB e = some (e.Host, e.Referer, (e.Agent, e), (e.Cookie, e), (e.Query, e), (e.Language, e)) from rfl, aNR]
  show (bif n == aGX then _ else (bif n == nREF then _ else (bif n == nUA then _ else (bif n == aGY then _ else (bif n == aC5 then _ else (bif n == aGZ then _ else _)))))) = _
  cases n == aGX with
  | true => cases hk0 : (k == ([] : aA)) <;> (unfold mZ; simp only [aNP, aNV, aNQ, hk0]; rfl)
  | false =>
  cases n == nREF with
  | true => cases hk0 : (k == ([] : aA)) <;> (unfold mZ; simp only [aNP, aNV, aNQ, hk0]; rfl)
  | false =>
  cases n == nUA with
  | true =>
    cases hk0 : (k == ([] : aA)) with
    | true => unfold iI; simp only [aNP, aNV, aNQ, hk0]; rfl
    | false =>
      unfold iI nD
      simp only [aNP, aNV, aNQ, hk0, aIR (show e.Agent.length <= 100000 by have := he.agent; omega), aNR, ag_map]
      rfl
  | false =>
  cases n == aGY with
  | true =>
    obtain ⟨h1, h2, h3⟩ := aE2 he.cookie
    cases hk0 : (k == ([] : aA)) with
    | true => unfold iI; simp only [aNP, aNV, aNQ, hk0]; rfl
    | false =>
      unfold iI nG
      simp only [aNP, aNV, aNQ, hk0, h1, aNR, aGS h3]
  | false =>
  cases n == aC5 with
  | true =>
    obtain ⟨h1, h2, h3⟩ := aC4 he.query
    cases hk0 : (k == ([] : aA)) with
    | true => unfold iI; simp only [aNP, aNV, aNQ, hk0]; rfl
    | false =>
      unfold iI nI
      simp only [aNP, aNV, aNQ, hk0, h1, aNR, aGS h3]
  | false =>
  cases n == aGZ with
  | true =>
    obtain ⟨h1, h2, h3⟩ := aE3 he.language
    cases hk0 : (k == ([] : aA)) with
    | true => unfold iI; simp only [aNP, aNV, aNQ, hk0]; rfl
    | false =>
      unfold iI nJ aFX
      simp only [aNP, aNV, aNQ, hk0, h1, aNR, aBI hk, sJ h3]
      cases hasS (aC3 e.Language) (kO k) <;> rfl
  | false => rfl
theorem aFY {s k : aA} (hs : s.length <= 10000) : bQ s k = some (agK (agS s) k) := by
  unfold bQ agK
  rw [aEc (by omega), aNR]
  cases k == ([98, 114, 111, 119, 115, 101, 114] : aA) with
  | true => rfl
  | false =>
    cases k == ([118, 101, 114, 115, 105, 111, 110] : aA) with
    | true => rfl
    | false => cases k == ([111, 115] : aA) <;> rfl
theorem aG0 {l : List aA} {k : aA} (hl : l.length <= maxLen) (hk : k.length <= maxLen) : aR (cC k l) (0 : Int) = some (aFX l k) := by
  have hb : ∀ (j : Nat) (x : aA), l[j]? = some x -> cC k l (j : Int) = bif kO k == x then some (.inr (([116, 114, 117, 101] : aA), true)) else some (.inl ((j + 1 : Nat) : Int)) := fun j x hx => by
    unfold cC
    simp only [aX (aO hx), aNP, bV hx, aNR, yP hk]
    rw [bM (aO hx) hl, aOn]
  unfold aFX hasS
  rcases qW (fun y : aA => kO k == y) l with h | ⟨i, x, h1, h2, h3⟩
  · rw [any_none' h, mG l.length fun j hj => ?_, aS]
    · have : cC k l (l.length : Int) = some (.inr (([102, 97, 108, 115, 101] : aA), true)) := by
        unfold cC
        rw [bP]; rfl
      rw [this]; rfl
    · have hx := aNS hj
      rw [hb j _ hx, h j _ hx, aNQ]
  · rw [List.any_eq_true.2 ⟨x, aOg h1, h2⟩, mG i fun j hj => ?_, aS, hb i x h1, h2]
    · rfl
    · have hj' : j < l.length := by have := aO h1; omega
      have hx := aNS hj'
      rw [hb j _ hx, h3 j _ hj hx, aNQ]
theorem aEe {e : aL} (he : ESm e) {n k : aA} (hk : k.length <= maxLen) : bS e n k = some (valS e n k) := by
  unfold bS valS
  show (bif n == aGX then _ else (bif n == nREF then _ else (bif n == nUA then _ else (bif n == aGY then _ else (bif n == aC5 then _ else (bif n == aGZ then _ else _)))))) = _
  obtain ⟨c1, c2, c3⟩ := aE2 he.cookie
  obtain ⟨q1, q2, q3⟩ := aC4 he.query
  obtain ⟨l1, l2, l3⟩ := aE3 he.language
  have ha := aFY (k := k) he.agent
  cases h1 : n == aGX with
  | true =>
    rw [eq_of_beq h1]
    cases hk0 : (k == ([] : aA)) <;> rfl
  | false =>
  cases h2 : n == nREF with
  | true =>
    rw [eq_of_beq h2]
    cases hk0 : (k == ([] : aA)) <;> rfl
  | false =>
  cases h3 : n == nUA with
  | true =>
    cases hk0 : (k == ([] : aA)) with
    | true => rfl
    | false =>
      rw [eq_of_beq h3]
      show ((bQ e.Agent k).bind _) = _
      rw [ha]; rfl
  | false =>
  cases h4 : n == aGY with
  | true =>
    cases hk0 : (k == ([] : aA)) with
    | true => rfl
    | false =>
      rw [eq_of_beq h4]
      show ((aZ e.Cookie).bind _) = _
      rw [c2, aNR, aA5 c3]; rfl
  | false =>
  cases h5 : n == aC5 with
  | true =>
    cases hk0 : (k == ([] : aA)) with
    | true => rfl
    | false =>
      rw [eq_of_beq h5]
      show ((bE e.Query).bind _) = _
      rw [q2, aNR, aA5 q3]; rfl
  | false =>
  cases h6 : n == aGZ with
  | true =>
    cases hk0 : (k == ([] : aA)) with
    | true => rfl
    | false =>
      rw [eq_of_beq h6]
      show ((aT e.Language).bind fun x => aR (cC k x) (0 : Int)) = _
      rw [l2, aNR, aG0 l3 hk]; rfl
  | false =>
    have e3 : (n == ([72, 84, 84, 80, 95, 85, 83, 69, 82, 95, 65, 71, 69, 78, 84] : aA)) = false := h3
    have e4 : (n == ([72, 84, 84, 80, 95, 67, 79, 79, 75, 73, 69] : aA)) = false := h4
    have e5 : (n == ([81, 85, 69, 82, 89, 95, 83, 84, 82, 73, 78, 71] : aA)) = false := h5
    have e6 : (n == ([72, 84, 84, 80, 95, 65, 67, 67, 69, 80, 84, 95, 76, 65, 78, 71, 85, 65, 71, 69] : aA)) = false := h6
    cases hk0 : (k == ([] : aA)) with
    | true => rfl
    | false => simp only [aNQ, e3, e4, e5, e6]
noncomputable def refV (e : aL) (s : aA) : aA × Int := refS (valS e) s
theorem tG {e : aL} (he : ESm e) {s : aA} (hs : s.length <= maxLen) : mB e s = some (refV e s) := Ref_eq hs fun n k _ hk => aIS he (by omega)
theorem uS {e : aL} (he : ESm e) {s : aA} (hs : s.length <= maxLen) : cN e s = some (refV e s) := aGR hs fun n k _ hk => aEe he (by omega)
def E0 : aL := aL.mk [] [] [] [] [] []
theorem aFZ : ESm E0 := ⟨by decide, by decide, by decide, by decide⟩
theorem aBR (v v' : aA -> aA -> aA × Bool) (n k o : aA) (len : Nat) (r : aA) : (endS v n k o len r).2 = (endS v' n k o len r).2 := by
  unfold endS; cases aY r [41] <;> rfl
theorem aE4 (v v' : aA -> aA -> aA × Bool) (n k : aA) (len : Nat) (r : aA) : (othS v n k len r).2 = (othS v' n k len r).2 := by
  unfold othS
  cases aY r [124, 39] with
  | true =>
    cases (cutC 39 (r.drop 2)).2.2 with
    | true => exact aBR ..
    | false => rfl
  | false =>
    cases aY r [124] with
    | true => exact aBR ..
    | false => exact aBR ..
theorem aIT (v v' : aA -> aA -> aA × Bool) (s : aA) : (refS v s).2 = (refS v' s).2 := by
  unfold refS
  cases (aY s [36, 40] && !(tw letB (s.drop 2) == ([] : aA))) with
  | false => rfl
  | true =>
    cases aY (dw letB (s.drop 2)) [123] with
    | false => exact aE4 ..
    | true =>
      simp only [aNP]
      cases (!(tw (nB kBad) ((dw letB (s.drop 2)).drop 1) == ([] : aA)) && aY (dw (nB kBad) ((dw letB (s.drop 2)).drop 1)) [125]) with
      | false => rfl
      | true => exact aE4 ..
def refN (s : aA) : Int := (refS (fun _ _ => ([], false)) s).2
theorem tH (e : aL) (s : aA) : (refV e s).2 = refN s := aIT _ _ s
inductive KeyP : aA -> Prop
  | none : KeyP []
  | key (k : aA) (h : k.all (nB kBad) = true) (h0 : k ≠ []) : KeyP (123 :: (k ++ [125]))
inductive OthP : aA -> Prop
  | none : OthP []
  | quo (o : aA) (h : o.contains 39 = false) : OthP (124 :: 39 :: (o ++ [39]))
  | bare (o : aA) (h : o.all (nB oBad) = true) : OthP (124 :: o)
structure RefP (p : aA) : Prop where
  mk ::
  ex : ∃ n k o, n ≠ [] /\ n.all letB = true /\ KeyP k /\ OthP o /\ p = 36 :: 40 :: (n ++ (k ++ (o ++ [41])))
theorem aC6 (p : UInt8 -> Bool) : ∀ (s : aA), (tw p s).all p = true
  | [] => rfl
  | x :: t => by
    rw [yT]
    cases hx : p x with
    | true => rw [aNP, aOh, hx, aC6 p t]; rfl
    | false => rfl
theorem aG1 {p : UInt8 -> Bool} {c : UInt8} (hc : p c = false) : ∀ (a b : aA), a.all p = true -> tw p (a ++ c :: b) = a /\ dw p (a ++ c :: b) = c :: b
  | [], b, _ => by rw [aOc, yT, yU, hc]; exact ⟨rfl, rfl⟩
  | x :: a, b, h => by
    rw [aOh, aN6] at h
    obtain ⟨h1, h2⟩ := aG1 hc a b h.2
    rw [aOb, yT, yU, h.1, h1, h2]; exact ⟨rfl, rfl⟩
theorem mH {r : aA} {c : UInt8} (h : aY r [c] = true) : ∃ t, r = c :: t := by
  rw [pre1] at h
  cases r with
  | nil => cases h
  | cons x t => exact ⟨t, by have := eq_of_beq h; injection this with this; rw [this]⟩
theorem aA7 {r : aA} {a b : UInt8} (h : aY r [a, b] = true) : ∃ t, r = a :: b :: t := by
  rw [kP, aN6] at h
  obtain ⟨t, rfl⟩ := mH h.1
  obtain ⟨u, hu⟩ := mH h.2
  exact ⟨u, by rw [aNZ, aN0] at hu; rw [hu]⟩
section
variable (val : aA -> aA -> aA × Bool)
theorem y8 {n k o : aA} {len : Nat} {r : aA} (h : (endS val n k o len r).2 > 0) : ∃ v, r = 41 :: v /\ (endS val n k o len r).2 = (len : Int) - (v.length : Int) := by
  unfold endS at h ⊢
  cases hb : aY r [41] with
  | false => rw [hb] at h; simp at h
  | true =>
    obtain ⟨v, rfl⟩ := mH hb
    refine ⟨v, rfl, ?_⟩
    rw [aNP, aNT]
    dsimp only
    omega
theorem aC7 {n k : aA} {len : Nat} {r : aA} (h : (othS val n k len r).2 > 0) : ∃ o v, OthP o /\ r = o ++ 41 :: v /\ (othS val n k len r).2 = (len : Int) - (v.length : Int) := by
  unfold othS at h ⊢
  cases hb : aY r [124, 39] with
  | true =>
    obtain ⟨t, rfl⟩ := aA7 hb
    rw [hb, aNP] at h
    rw [aNP]
    simp only [aNZ, aN0] at h ⊢
    cases hc : (cutC 39 t).2.2 with
    | false => rw [hc] at h; simp at h
    | true =>
      rw [hc, aNP] at h
      rw [aNP]
      obtain ⟨v, h1, h2⟩ := y8 val h
      refine ⟨_, v, .quo _ (xU 39 t hc), ?_, h2⟩
      have := vM 39 t hc
      rw [h1] at this
      conv => lhs; rw [this]
      simp
  | false =>
    rw [hb, aNQ] at h
    rw [aNQ]
    cases hb1 : aY r [124] with
    | true =>
      obtain ⟨t, rfl⟩ := mH hb1
      rw [hb1, aNP] at h
      rw [aNP]
      simp only [aNZ, aN0] at h ⊢
      obtain ⟨v, h1, h2⟩ := y8 val h
      refine ⟨_, v, .bare _ (aC6 _ t), ?_, h2⟩
      conv => lhs; rw [<- aFP (nB oBad) t, h1]
      simp
    | false =>
      rw [hb1, aNQ] at h
      rw [aNQ]
      obtain ⟨v, h1, h2⟩ := y8 val h
      exact ⟨[], v, .none, h1, h2⟩
theorem aG2 {s : aA} (h : (refS val s).2 > 0) : ∃ p v, RefP p /\ s = p ++ v /\ (refS val s).2 = (p.length : Int) := by
  have len : ∀ (p v : aA), s = p ++ v -> (s.length : Int) - (v.length : Int) = (p.length : Int) := fun p v h => by rw [h, aOa]; omega
  unfold refS at h ⊢
  cases hb : (aY s [36, 40] && !(tw letB (s.drop 2) == ([] : aA))) with
  | false => rw [hb] at h; simp at h
  | true =>
    rw [hb, aNP] at h
    rw [aNP]
    rw [aN6] at hb
    obtain ⟨t, rfl⟩ := aA7 hb.1
    simp only [aNZ, aN0] at h hb ⊢
    have hn : tw letB t ≠ [] := by
      intro h0
      rw [h0] at hb; simp at hb
    have ht := aFP letB t
    cases hk : aY (dw letB t) [123] with
    | false =>
      rw [hk, aNQ] at h
      rw [aNQ]
      obtain ⟨o, v, h1, h2, h3⟩ := aC7 val h
      have e : 36 :: 40 :: t = (36 :: 40 :: (tw letB t ++ ([] ++ (o ++ [41])))) ++ v := by
        conv => lhs; rw [<- ht, h2]
        simp
      exact ⟨_, v, ⟨_, _, _, hn, aC6 _ t, .none, h1, rfl⟩, e, h3.trans (len _ _ e)⟩
    | true =>
      obtain ⟨u, hu⟩ := mH hk
      rw [hk, aNP, hu] at h
      rw [aNP, hu]
      simp only [aNZ, aN0] at h ⊢
      cases hq : (!(tw (nB kBad) u == ([] : aA)) && aY (dw (nB kBad) u) [125]) with
      | false => rw [hq] at h; simp at h
      | true =>
        rw [hq, aNP] at h
        rw [aNP]
        rw [aN6] at hq
        obtain ⟨q, hqq⟩ := mH hq.2
        rw [hqq] at h ⊢
        simp only [aNZ, aN0] at h ⊢
        have hk0 : tw (nB kBad) u ≠ [] := by
          intro h0
          rw [h0] at hq; simp at hq
        obtain ⟨o, v, h1, h2, h3⟩ := aC7 val h
        have hu2 := aFP (nB kBad) u
        have e : 36 :: 40 :: t = (36 :: 40 :: (tw letB t ++ ((123 :: (tw (nB kBad) u ++ [125])) ++ (o ++ [41])))) ++ v := by
          conv => lhs; rw [<- ht, hu, <- hu2, hqq, h2]
          simp
        exact ⟨_, v, ⟨_, _, _, hn, aC6 _ t, .key _ (aC6 _ u) hk0, h1, rfl⟩, e, h3.trans (len _ _ e)⟩
theorem aEf (n k o : aA) (len : Nat) (v : aA) : (endS val n k o len (41 :: v)).2 = (len : Int) - (v.length : Int) := by
  unfold endS
  rw [pre1]
  show (_, (len : Int) - (((41 :: v : aA).length : Nat) : Int) + 1).2 = _
  rw [aNT]; dsimp only; omega
theorem aG3 (n k : aA) (len : Nat) {o : aA} (ho : OthP o) (v : aA) : (othS val n k len (o ++ 41 :: v)).2 = (len : Int) - (v.length : Int) := by
  unfold othS
  cases ho with
  | none =>
    rw [kP, aOc, pre1, pre1]
    exact aEf val n k [] len v
  | quo o h =>
    rw [kP, pre1, pre1]
    show (bif (cutC 39 ((o ++ [39]) ++ 41 :: v)).2.2 then endS val n k (cutC 39 ((o ++ [39]) ++ 41 :: v)).1 len (cutC 39 ((o ++ [39]) ++ 41 :: v)).2.1 else ([], 0) : aA × Int).2 = _
    rw [aOk, aOb, aOc, aD1 39 _ h]
    show (endS val n k o len (41 :: v)).2 = _
    exact aEf val n k o len v
  | bare o h =>
    have h39 : aY (o ++ 41 :: v) [39] = false := by
      rw [pre1]
      cases o with
      | nil => rfl
      | cons x t =>
        rw [aOh, aN6] at h
        show (some x == some 39) = false
        cases hx : (some x == some (39 : UInt8)) with
        | false => rfl
        | true =>
          have := eq_of_beq hx
          injection this with this
          rw [this] at h
          exact absurd h.1 (by decide)
    rw [kP, pre1]
    show (bif (true && aY (o ++ 41 :: v) [39]) then _ else (bif true then endS val n k (tw (nB oBad) (o ++ 41 :: v)) len (dw (nB oBad) (o ++ 41 :: v)) else _)).2 = _
    rw [h39, (aG1 (c := 41) rfl o v h).1, (aG1 (c := 41) rfl o v h).2]
    exact aEf val n k o len v
theorem aKg {p : aA} (hp : RefP p) (v : aA) : (refS val (p ++ v)).2 = (p.length : Int) := by
  obtain ⟨n, k, o, hn, hl, hk, ho, rfl⟩ := hp.ex
  have len : ∀ (p v : aA), (((p ++ v).length : Nat) : Int) - (v.length : Int) = (p.length : Int) := fun p v => by rw [aOa]; omega
  -- the head behind the name is no letter
  obtain ⟨c, q, hcq, hc⟩ : ∃ c q, k ++ (o ++ [41]) ++ v = c :: q /\ letB c = false := by
    cases hk with
    | none =>
      cases ho with
      | none => exact ⟨41, v, rfl, rfl⟩
      | quo o _ => exact ⟨124, _, rfl, rfl⟩
      | bare o _ => exact ⟨124, _, rfl, rfl⟩
    | key k _ _ => exact ⟨123, _, rfl, rfl⟩
  have e : 36 :: 40 :: (n ++ (k ++ (o ++ [41]))) ++ v = 36 :: 40 :: (n ++ c :: q) := by
    rw [<- hcq]; simp
  have hlen := len (36 :: 40 :: (n ++ (k ++ (o ++ [41])))) v
  rw [e] at hlen ⊢
  obtain ⟨t1, t2⟩ := aG1 hc n q hl
  have hne : (n == ([] : aA)) = false := by cases n with | nil => exact absurd rfl hn | cons => rfl
  unfold refS
  rw [kP, pre1, pre1]
  simp only [aNZ, aN0, t1, t2, hne]
  show (bif aY (c :: q) [123] then (bif !(tw (nB kBad) ((c :: q).drop 1) == ([] : aA)) && aY (dw (nB kBad) ((c :: q).drop 1)) [125] then othS val n (tw (nB kBad) ((c :: q).drop 1)) _ ((dw (nB kBad) ((c :: q).drop 1)).drop 1) else ([], 0)) else othS val n [] _ (c :: q) : aA × Int).2 = _
  cases hk with
  | none =>
    rw [aOc] at hcq
    have h123 : aY (c :: q) [123] = false := by
      rw [<- hcq, pre1]
      cases ho <;> rfl
    rw [h123, aNQ, <- hcq, aOk, aOb, aOc, aG3 val n [] _ ho v]
    rw [<- hcq] at hlen
    simp only [aOk, aOb, aOc] at hlen ⊢
    exact hlen
  | key k hka hk0 =>
    have : c = 123 /\ q = k ++ 125 :: (o ++ 41 :: v) := by
      simp only [aOb, aOk, List.cons.injEq, aOc] at hcq
      exact ⟨hcq.1.symm, hcq.2.symm⟩
    obtain ⟨rfl, rfl⟩ := this
    have hk1 : (k == ([] : aA)) = false := by cases k with | nil => exact absurd rfl hk0 | cons => rfl
    obtain ⟨t3, t4⟩ := aG1 (p := nB kBad) (c := 125) rfl k (o ++ 41 :: v) hka
    rw [pre1]
    simp only [aNZ, aN0, t3, t4, hk1]
    rw [pre1]
    show (othS val n k _ (o ++ 41 :: v)).2 = _
    rw [aG3 val n k _ ho v]
    exact hlen
end
theorem y9 {s : aA} (h : refN s > 0) : ∃ p v, RefP p /\ s = p ++ v /\ refN s = (p.length : Int) := aG2 _ h
theorem aG4 {p : aA} (hp : RefP p) (v : aA) : refN (p ++ v) = (p.length : Int) := aKg _ hp v
theorem aG5 {s : aA} (h : aY s [36] = false) (val : aA -> aA -> aA × Bool) : refS val s = ([], 0) := by
  unfold refS
  rw [kP, h]; rfl
theorem oY {s : aA} (h : aY s [36] = false) : refN s = 0 := by
  unfold refN; rw [aG5 h]
def sgnB (c : UInt8) : Bool := c == 61 || c == 33 || c == 60 || c == 62
def oneB (c : UInt8) : Bool := c == 60 || c == 62 || c == 33 || c == 38 || c == 124 || c == 40 || c == 41
def fP : aA -> Nat
  | [] => 0
  | c :: t => bif c == 39 then (bif (cutC 39 t).2.2 then (cutC 39 t).1.length + 2 else 0)
    else bif decide (refN (c :: t) > 0) then (refN (c :: t)).toNat
    else bif fO c || c == 45 then 1 + (tw fO t).length
    else bif (t.head? == some 61) && sgnB c then 2 else bif oneB c then 1 else 0
theorem kS (c : UInt8) (t : aA) : fP (c :: t) = bif c == 39 then (bif (cutC 39 t).2.2 then (cutC 39 t).1.length + 2 else 0)
    else bif decide (refN (c :: t) > 0) then (refN (c :: t)).toNat
    else bif fO c || c == 45 then 1 + (tw fO t).length
    else bif (t.head? == some 61) && sgnB c then 2 else bif oneB c then 1 else 0 := rfl
theorem aBS (s : aA) : fP s <= s.length := by
  cases s with
  | nil => exact aN3 _
  | cons c t =>
    rw [kS, aNT]
    cases c == 39 with
    | true =>
      cases hc : (cutC 39 t).2.2 with
      | true => have := aD5 39 t hc; simp only [aNP]; omega
      | false => simp
    | false =>
      cases hr : decide (refN (c :: t) > 0) with
      | true =>
        obtain ⟨p, v, _, h1, h2⟩ := y9 (of_decide_eq_true hr)
        have := congrArg List.length h1
        rw [aOa, aNT] at this
        simp only [aNQ, aNP]
        omega
      | false =>
        have h1 := nM fO t
        cases fO c || c == 45 with
        | true => simp only [aNQ, aNP]; omega
        | false =>
          cases hh : (t.head? == some 61) && sgnB c with
          | true =>
            rw [aN6] at hh
            cases t with
            | nil => exact absurd hh.1 (by decide)
            | cons y u => simp
          | false => cases oneB c <;> simp
theorem aBT (b : UInt8) : fI (b.toNat : Int) = some (fO b) := by
  unfold fI
  exact congrArg some (qT (p := fun b => bif (decide ((b.toNat : Int) ≥ (48 : Int))) then (decide ((b.toNat : Int) <= (57 : Int))) else false) (q := fO) (by kernel_rfl) b)
theorem aF0 (b : UInt8) : gW (b.toNat : Int) = some (blk b) := by
  unfold gW
  exact congrArg some (qT (p := fun b => bif (bif (bif ((b.toNat : Int) == (32 : Int)) then true else ((b.toNat : Int) == (9 : Int))) then true else ((b.toNat : Int) == (10 : Int))) then true else ((b.toNat : Int) == (13 : Int))) (q := blk) (by kernel_rfl) b)
theorem aKh (b : UInt8) : (bif (bif (bif ((b.toNat : Int) == (61 : Int)) then true else ((b.toNat : Int) == (33 : Int))) then true else ((b.toNat : Int) == (60 : Int))) then true else ((b.toNat : Int) == (62 : Int))) = sgnB b :=
  qT (p := fun b => bif (bif (bif ((b.toNat : Int) == (61 : Int)) then true else ((b.toNat : Int) == (33 : Int))) then true else ((b.toNat : Int) == (60 : Int))) then true else ((b.toNat : Int) == (62 : Int))) (q := sgnB) (by kernel_rfl) b
theorem aKi (b : UInt8) : (bif (bif (bif (bif (bif (bif ((b.toNat : Int) == (60 : Int)) then true else ((b.toNat : Int) == (62 : Int))) then true else ((b.toNat : Int) == (33 : Int))) then true else ((b.toNat : Int) == (38 : Int))) then true else ((b.toNat : Int) == (124 : Int))) then true else ((b.toNat : Int) == (40 : Int))) then true else ((b.toNat : Int) == (41 : Int))) = oneB b :=
  qT (p := fun b => (bif (bif (bif (bif (bif (bif ((b.toNat : Int) == (60 : Int)) then true else ((b.toNat : Int) == (62 : Int))) then true else ((b.toNat : Int) == (33 : Int))) then true else ((b.toNat : Int) == (38 : Int))) then true else ((b.toNat : Int) == (124 : Int))) then true else ((b.toNat : Int) == (40 : Int))) then true else ((b.toNat : Int) == (41 : Int)))) (q := oneB) (by kernel_rfl) b
theorem aF1 {c : UInt8} {t : aA} (hl : (c :: t).length <= 100000) : aR (dF (c :: t)) (1 : Int) = some ((bif (cutC 39 t).2.2 then (cutC 39 t).1.length + 2 else 0 : Nat) : Int) := by
  have hlen : (c :: t).length = t.length + 1 := aNT
  rw [show (1 : Int) = ((1 : Nat) : Int) from rfl, oV (s := c :: t) (nB [39]) (body := dF (c :: t)) (fun i => ((bif Nat.blt i (c :: t).length then i + 1 else 0 : Nat) : Int)) 1 (by rw [aNT]; omega) (fun i x hx hp => ?_) (fun i hi hx => ?_)]
  · rw [aNZ, aN0, aEY]
    have h1 := nM (nB [39]) t
    cases hd : (dw (nB [39]) t == ([] : aA)) with
    | true =>
      have := eq_of_beq hd
      rw [this, List.length_nil] at h1
      have e : Nat.blt (1 + (tw (nB [39]) t).length) (c :: t).length = false := by
        cases hb : Nat.blt (1 + (tw (nB [39]) t).length) (c :: t).length with
        | false => rfl
        | true => have := Nat.le_of_ble_eq_true hb; omega
      rw [e]; rfl
    | false =>
      have h3 : 1 <= (dw (nB [39]) t).length := by
        cases hz : dw (nB [39]) t with
        | nil => rw [hz] at hd; cases hd
        | cons => simp
      have e : Nat.blt (1 + (tw (nB [39]) t).length) (c :: t).length = true := Nat.ble_eq_true_of_le (by omega)
      rw [e]
      simp only [aNP, aNQ]
      congr 2; omega
  · unfold dF
    rw [aE0, aOo] at hp
    simp only [aX (aO hx), aNP, bV hx, aNR, show ((x.toNat : Int) == (39 : Int)) = (x == 39) from eV x 39, hp, aNQ]
    rw [bM (aO hx) (by unfold maxLen; omega)]
  · unfold dF
    rcases aOd i (c :: t).length with h | h
    · have hx' := aNS h
      have hp := hx _ hx'
      rw [aE0, Bool.not_eq_false'] at hp
      generalize (c :: t)[i] = x at hp hx'
      simp only [aX h, aNP, bV hx', aNR, show ((x.toNat : Int) == (39 : Int)) = (x == 39) from eV x 39, hp]
      rw [bM h (by unfold maxLen; omega), show Nat.blt i (c :: t).length = true from Nat.ble_eq_true_of_le h]; rfl
    · have : i = (c :: t).length := by omega
      subst this
      have e : Nat.blt (c :: t).length (c :: t).length = false := by
        cases hb : Nat.blt (c :: t).length (c :: t).length with
        | false => rfl
        | true => have := Nat.le_of_ble_eq_true hb; omega
      rw [bP, aNQ, e]; rfl
theorem aF2 {c : UInt8} {t : aA} (hl : (c :: t).length <= 100000) : aR (dG (c :: t)) (1 : Int) = some ((1 + (tw fO t).length : Nat) : Int) := by
  have hlen : (c :: t).length = t.length + 1 := aNT
  rw [show (1 : Int) = ((1 : Nat) : Int) from rfl, oV (s := c :: t) fO (body := dG (c :: t)) (fun i => (i : Int)) 1 (by rw [aNT]; omega) (fun i x hx hp => ?_) (fun i hi hx => ?_)]
  · rw [aNZ, aN0]
  · unfold dG
    simp only [aX (aO hx), jH, kQ, aNP, bV hx, aNR, aBT, hp]
    rw [bM (aO hx) (by unfold maxLen; omega)]
  · unfold dG
    rcases aOd i (c :: t).length with h | h
    · have hx' := aNS h
      have hp := hx _ hx'
      generalize (c :: t)[i] = x at hp hx'
      simp only [aX h, jH, kQ, aNP, bV hx', aNR, aBT, hp, aNQ]
    · have : i = (c :: t).length := by omega
      subst this
      rw [bP]; rfl
theorem aG6 {c : UInt8} {t : aA} (hl : (c :: t).length <= 100000) : iF (c :: t) = some ((fP (c :: t) : Nat) : Int) := by
  unfold iF
  have hm : (c :: t).length <= maxLen := by unfold maxLen; omega
  rw [show idx (c :: t) (0 : Int) = some c from rfl, aNR, show ((c.toNat : Int) == (39 : Int)) = (c == 39) from eV c 39, kS]
  cases c == 39 with
  | true => exact aF1 hl
  | false =>
    rw [aNQ, aNQ, show cN (aL.mk ([] : aA) ([] : aA) ([] : aA) ([] : aA) ([] : aA) ([] : aA)) (c :: t) = _ from uS aFZ hm, aNR, tH]
    cases hr : decide (refN (c :: t) > 0) with
    | true =>
      have := of_decide_eq_true hr
      rw [aNP, aNP]
      congr 1; omega
    | false =>
      rw [aNQ, aNQ, aBT, aNR, show ((c.toNat : Int) == (45 : Int)) = (c == 45) from eV c 45]
      rw [show (bif fO c then true else c == 45) = (fO c || c == 45) by cases fO c <;> rfl]
      cases fO c || c == 45 with
      | true => rw [aNP, aNP, aF2 hl]; rfl
      | false =>
        rw [aNQ, aNQ]
        simp only [aKh, aKi]
        cases t with
        | nil =>
          show (bif false then some (2 : Int) else (bif oneB c then some (1 : Int) else some (0 : Int))) = some ((bif (false && sgnB c) then 2 else bif oneB c then 1 else 0 : Nat) : Int)
          cases oneB c <;> rfl
        | cons y u =>
          have e : decide ((((c :: y :: u).length : Nat) : Int) > (1 : Int)) = true := by simp; omega
          rw [e, uP rfl, show idx (c :: y :: u) (1 : Int) = some y from rfl, aNR, aNP, show ((y.toNat : Int) == (61 : Int)) = (y == 61) from eV y 61]
          show (bif (bif y == 61 then sgnB c else false) then some (2 : Int) else (bif oneB c then some (1 : Int) else some (0 : Int))) = some ((bif ((y == 61) && sgnB c) then 2 else bif oneB c then 1 else 0 : Nat) : Int)
          cases y == 61 <;> cases sgnB c <;> cases oneB c <;> rfl
def lexW (s : aA) : List aA × Bool := match s with
  | [] => ([], true)
  | c :: t => if blk c = true then lexW t else if h : fP (c :: t) = 0 then ([], false) else ((c :: t).take (fP (c :: t)) :: (lexW ((c :: t).drop (fP (c :: t)))).1, (lexW ((c :: t).drop (fP (c :: t)))).2)
termination_by s.length
decreasing_by
  all_goals first | (simp; done) | (rw [aNU, aNT]; omega)
theorem qX : lexW [] = ([], true) := by rw [lexW]
theorem aBU {c : UInt8} (t : aA) (h : blk c = true) : lexW (c :: t) = lexW t := by rw [lexW, if_pos h]
theorem aBV {c : UInt8} {t : aA} (h : blk c = false) (h0 : fP (c :: t) = 0) : lexW (c :: t) = ([], false) := by rw [lexW, if_neg (by rw [h]; simp), dif_pos h0]
theorem zA {c : UInt8} {t : aA} (h : blk c = false) (h0 : fP (c :: t) ≠ 0) : lexW (c :: t) = ((c :: t).take (fP (c :: t)) :: (lexW ((c :: t).drop (fP (c :: t)))).1, (lexW ((c :: t).drop (fP (c :: t)))).2) := by rw [lexW, if_neg (by rw [h]; simp), dif_neg h0]
theorem vO (c : UInt8) (t : aA) : skip (c :: t) = bif blk c then skip t else c :: t := by
  unfold skip jF
  rw [aN9]; cases blk c <;> rfl
theorem lL : ∀ (s : aA), lexW (skip s) = lexW s
  | [] => rfl
  | c :: t => by
    rw [vO]
    cases h : blk c with
    | true => rw [aNP, aBU t h]; exact lL t
    | false => rfl
theorem vP (s : aA) : skip (skip s) = skip s := tF blk s
theorem zB {s : aA} {c : UInt8} {t : aA} (h : skip s = c :: t) : blk c = false := by
  have := vP s
  rw [h, vO] at this
  cases hb : blk c with
  | false => rfl
  | true =>
    rw [hb, aNP] at this
    have h2 := qV t
    rw [this, aNT] at h2; omega
theorem aIU {s : aA} (hs : s.length <= 50000) : gY s = some (lexW s) := by
  unfold gY
  have := oT (body := c9) (fun x => (x.2 ++ (lexW x.1).1, (lexW x.1).2)) (fun x => x.1.length) (fun x => x.1.length + x.2.length <= 50000) (fun x hx => ?_) (s, []) (by simpa using hs)
  · rw [this]; rfl
  · obtain ⟨s1, s2⟩ := x
    dsimp only at hx ⊢
    cases s1 with
    | nil => refine .inr ?_; rw [qX]; unfold c9; simp
    | cons c t =>
      have hb : c9 (c :: t, s2) = bif blk c then some (.inl (t, s2)) else bif Nat.beq (fP (c :: t)) 0 then some (.inr (s2, false)) else some (.inl ((c :: t).drop (fP (c :: t)), s2 ++ [(c :: t).take (fP (c :: t))])) := by
        unfold c9
        have hw := aBS (c :: t)
        rw [aNT] at hx
        have happ : ∀ x : aA, app 16 s2 [x] = some (s2 ++ [x]) := fun x => n9 (by simp; omega) (by omega)
        simp only [show (!(c :: t == ([] : aA))) = true from rfl, aNP, show idx (c :: t) (0 : Int) = some c from rfl, aNR, aF0, qU, aG6 (show (c :: t).length <= 100000 by rw [aNT]; omega), mF (c :: t) _ hw, jX (c :: t) _ hw, happ]
        have e : ((((fP (c :: t) : Nat) : Int)) == (0 : Int)) = Nat.beq (fP (c :: t)) 0 := by
          rw [aN1, beq_iff_eq, Nat.beq_eq]; omega
        rw [e]
      rw [hb]
      cases h : blk c with
      | true => exact .inl ⟨(t, s2), rfl, by simp at hx ⊢; omega, by simp, by rw [aBU t h]⟩
      | false =>
        rw [aNQ]
        cases h0 : Nat.beq (fP (c :: t)) 0 with
        | true => refine .inr ?_; rw [aBV h (Nat.eq_of_beq_eq_true h0)]; simp
        | false =>
          have hne := Nat.ne_of_beq_eq_false h0
          have hw := aBS (c :: t)
          refine .inl ⟨_, rfl, ?_, ?_, ?_⟩
          · dsimp only
            rw [aNU, aOa, List.length_singleton]; omega
          · dsimp only
            rw [aNU, aNT]; omega
          · rw [zA h hne]
            simp
def nxt (s : aA) : Option (aA × aA) := match skip s with
  | [] => none
  | c :: t => if fP (c :: t) = 0 then none else some ((c :: t).take (fP (c :: t)), (c :: t).drop (fP (c :: t)))
theorem aG7 {s : aA} (h : skip s = []) : nxt s = none := by unfold nxt; rw [h]
theorem pU {s : aA} {c : UInt8} {t : aA} (h : skip s = c :: t) : nxt s = if fP (c :: t) = 0 then none else some ((c :: t).take (fP (c :: t)), (c :: t).drop (fP (c :: t))) := by unfold nxt; rw [h]
theorem xV (s : aA) : nxt (skip s) = nxt s := by unfold nxt; rw [vP]
theorem gP {s w s' : aA} (h : nxt s = some (w, s')) : lexW s = (w :: (lexW s').1, (lexW s').2) /\ w ≠ [] /\ skip s = w ++ s' /\ s'.length < s.length /\ w = (skip s).take (fP (skip s)) /\ fP (skip s) ≠ 0 := by
  cases hs : skip s with
  | nil => rw [aG7 hs] at h; cases h
  | cons c t =>
    rw [pU hs] at h
    have hl := qV s
    rw [hs, aNT] at hl
    by_cases h0 : fP (c :: t) = 0
    · rw [if_pos h0] at h; cases h
    · rw [if_neg h0] at h
      injection h with h
      injection h with h1 h2
      subst h1 h2
      refine ⟨?_, ?_, (List.take_append_drop _ _).symm, ?_, rfl, h0⟩
      · rw [<- lL, hs]; exact zA (zB hs) h0
      · intro he
        rw [List.take_eq_nil_iff] at he
        rcases he with he | he
        · exact h0 he
        · cases he
      · rw [aNU, aNT]; omega
theorem nC {s : aA} (h : nxt s = none) : lexW s = ([], (skip s == ([] : aA))) := by
  cases hs : skip s with
  | nil => rw [<- lL, hs, qX]; rfl
  | cons c t =>
    rw [pU hs] at h
    by_cases h0 : fP (c :: t) = 0
    · rw [<- lL, hs]; exact aBV (zB hs) h0
    · rw [if_neg h0] at h; cases h
structure TokG (w : aA) : Prop where
  ne : w ≠ []
  quo : w.head? = some 39 -> 2 <= w.length
  len : w.length <= 100000
theorem aKj {s w s' : aA} (hs : s.length <= 100000) (h : nxt s = some (w, s')) : TokG w := by
  obtain ⟨_, h1, h2, _, h3, h4⟩ := gP h
  have hl := qV s
  have hw := aBS (skip s)
  refine ⟨h1, fun hq => ?_, by rw [h3, List.length_take]; omega⟩
  cases hu : skip s with
  | nil => rw [hu] at h4; exact absurd rfl h4
  | cons c t =>
    rw [hu] at h3 h4 hw
    have hc : c = 39 := by
      rw [h3, List.head?_take, if_neg h4] at hq
      injection hq
    subst hc
    rw [kS] at h4
    rw [h3, List.length_take, Nat.min_eq_left hw, kS]
    cases hcc : (cutC 39 t).2.2 with
    | false => rw [hcc] at h4; exact absurd rfl h4
    | true => simp
def fQ : aB := aB.mk 0 0 [] [] []
def dR (w : aA) : aB := bif w.head? == some 39 then aB.mk 2 0 ((w.drop 1).take (w.length - 2)) [] []
  else bif decide (refN w > 0) then aB.mk 3 0 w [] [] else bif (sgn w).2 == 0 then aB.mk 1 (sgn w).1 [] [] [] else fQ
theorem aC8 {w : aA} (h : TokG w) : cQ w = some (dR w) := by
  unfold cQ dR
  have hm : w.length <= maxLen := by have := h.len; unfold maxLen; omega
  cases w with
  | nil => exact absurd rfl h.ne
  | cons c t =>
    rw [show idx (c :: t) (0 : Int) = some c from rfl, aNR, show ((c.toNat : Int) == (39 : Int)) = (c == 39) from eV c 39, show ((c :: t).head? == some 39) = (c == 39) from rfl]
    cases hc : c == 39 with
    | true =>
      have h2 := h.quo (by rw [eq_of_beq hc]; rfl)
      have e : IntKind.i64.wrap ((((c :: t).length : Nat) : Int) - (1 : Int)) = (((c :: t).length - 1 : Nat) : Int) := by unfold maxLen at hm; rw [wrap_i64 (by omega) (by omega)]; omega
      rw [aNP, aNP, e, show slc (c :: t) (1 : Int) (((c :: t).length - 1 : Nat) : Int) = _ from nY (c :: t) 1 _ (by omega) (by omega), aNR, aN7]; rfl
    | false =>
      rw [aNQ, aNQ, show cN (aL.mk ([] : aA) ([] : aA) ([] : aA) ([] : aA) ([] : aA) ([] : aA)) (c :: t) = _ from uS aFZ hm, aNR, tH]
      cases decide (refN (c :: t) > 0) with
      | true => rfl
      | false =>
        rw [aNQ, aNQ, aCW hm, aNR]
        cases (sgn (c :: t)).2 == 0 <;> rfl
theorem gE {c d : UInt8} {t : aA} : aY (c :: t) [d] = (c == d) := by rw [pre1]; rfl
def simT (s : aA) (bad : Bool) : aB × aC := match nxt s with
  | some (w, s') => if (dR w).Kind = 0 then (fQ, aC.mk [] true) else (dR w, aC.mk s' bad)
  | none => (fQ, aC.mk [] true)
theorem sgn_op {c : UInt8} {t : aA} (h1 : fO c = false) (h2 : (c == 45) = false) : sgn (c :: t) = (0, 10) := by
  unfold sgn
  rw [gE, h2, aNQ]
  unfold dec decR
  rw [aOh, h1]; rfl
theorem sK {c : UInt8} {t : aA} (h0 : (c == 39) = false) (h36 : (c == 36) = false) (h1 : fO c = false) (h2 : (c == 45) = false) : dR (c :: t) = fQ := by
  unfold dR
  rw [show ((c :: t).head? == some 39) = (c == 39) from rfl, h0, aNQ, oY (by rw [gE]; exact h36), sgn_op h1 h2]; rfl
theorem zC {s : aA} {bad : Bool} (hs : s.length <= 100000) : gA (aC.mk s bad) = some (simT s bad) := by
  unfold gA
  have hl := qV s
  rw [yS, aNR]
  dsimp only
  rw [pT, aNR]
  have num : ∀ (u : aA), u.length <= 100000 -> cL u ([48, 49, 50, 51, 52, 53, 54, 55, 56, 57] : aA) = some (dw fO u) := fun u _ => pS fO (by decide) aJ7 u
  cases hu : skip s with
  | nil =>
    unfold simT
    rw [aG7 hu]
    show ((mB E0 []).bind _) = _
    rw [tG aFZ (aN4 _), aNR, tH, oY rfl]
    rw [show decide ((0 : Int) > (0 : Int)) = false from rfl, aNQ]
    rw [aEU (aN4 _), aNR]
    show ((cL [] [48, 49, 50, 51, 52, 53, 54, 55, 56, 57]).bind _) = _
    rw [num [] (aN4 _), aNR]
    rw [show IntKind.i64.wrap ((([] : aA).length : Int) - ((dw fO []).length : Int)) = ((0 : Nat) : Int) from rfl, mF _ 0 (aN4 _), aNR, List.take_zero, sI (aN4 _), aNR]; rfl
  | cons c t =>
    rw [hu, aNT] at hl
    have hlc : (c :: t).length <= 100000 := by rw [aNT]; omega
    have hm : (c :: t).length <= maxLen := by unfold maxLen; omega
    unfold cutP simT
    rw [gE, pU hu]
    have hwn := kS c t
    cases hc : c == 39 with
    | true =>
      have hc' := eq_of_beq hc
      subst hc'
      rw [aNP]
      show ((dO t [39]).bind _) = _
      rw [yQ 39 (by unfold maxLen; omega), aNR]
      rw [show ((39 : UInt8) == 39) = true from rfl, aNP] at hwn
      cases hcc : (cutC 39 t).2.2 with
      | false =>
        rw [hcc, aNQ] at hwn
        rw [hwn]; rfl
      | true =>
        rw [hcc, aNP] at hwn
        have hb := vM 39 t hcc
        rw [hwn, if_neg (by omega)]
        have e1 : ((39 : UInt8) :: t).take ((cutC 39 t).1.length + 2) = 39 :: ((cutC 39 t).1 ++ [39]) := by
          rw [List.take_succ_cons]
          congr 1
          conv => lhs; arg 2; rw [hb]
          rw [show (cutC 39 t).1 ++ 39 :: (cutC 39 t).2.1 = ((cutC 39 t).1 ++ [39]) ++ (cutC 39 t).2.1 by simp, List.take_left' (by simp)]
        have e2 : ((39 : UInt8) :: t).drop ((cutC 39 t).1.length + 2) = (cutC 39 t).2.1 := by
          rw [aNZ]
          conv => lhs; arg 2; rw [hb]
          rw [show (cutC 39 t).1 ++ 39 :: (cutC 39 t).2.1 = ((cutC 39 t).1 ++ [39]) ++ (cutC 39 t).2.1 by simp, List.drop_left' (by simp)]
        rw [e1, e2]
        have e3 : dR (39 :: ((cutC 39 t).1 ++ [39])) = aB.mk 2 0 (cutC 39 t).1 [] [] := by
          unfold dR
          show (aB.mk 2 0 (((cutC 39 t).1 ++ [39]).take ((39 :: ((cutC 39 t).1 ++ [39])).length - 2)) [] []) = _
          congr 1
          rw [aNT, aOa, List.length_singleton, show (cutC 39 t).1.length + 1 + 1 - 2 = (cutC 39 t).1.length by omega, List.take_left' rfl]
        dsimp only
        rw [e3]; rfl
    | false =>
      rw [hc, aNQ] at hwn
      rw [aNQ, aNQ]
      show ((mB E0 (c :: t)).bind _) = _
      rw [tG aFZ hm, aNR, tH]
      cases hr : decide (refN (c :: t) > 0) with
      | true =>
        have hr' := of_decide_eq_true hr
        obtain ⟨p, v, hp, h1, h2⟩ := y9 hr'
        rw [hr, aNP, h2, aNW] at hwn
        have hp0 : p.length ≠ 0 := by rw [h2] at hr'; omega
        rw [aNP, h2, hwn, if_neg hp0]
        have hpl : p.length <= (c :: t).length := by rw [h1, aOa]; omega
        rw [mF _ _ hpl, aNR, jX _ _ hpl, aNR]
        have e1 : (c :: t).take p.length = p := by rw [h1, List.take_left' rfl]
        rw [e1]
        have e3 : dR p = aB.mk 3 0 p [] [] := by
          unfold dR
          have hh : (p.head? == some 39) = false := by
            cases p with
            | nil => exact absurd rfl hp0
            | cons y q =>
              rw [aOb] at h1
              injection h1 with h1 _
              rw [<- h1]; exact hc
          have h4 := aG4 hp []
          rw [List.append_nil] at h4
          rw [hh, aNQ, decide_eq_true (by rw [h4]; omega)]; rfl
        dsimp only
        rw [e3]; rfl
      | false =>
        rw [hr, aNQ] at hwn
        rw [aNQ, aEU hm, aNR, gE]
        -- a number, or none
        have hdig : ∀ (q : aA) (h36 : (c == 36) = false), q = tw fO t -> fP (c :: t) = 1 + q.length -> ∀ (x8 : aA), dw fO x8 = dw fO t -> x8.length <= 100000 ->
            ((cL x8 ([48, 49, 50, 51, 52, 53, 54, 55, 56, 57] : aA)).bind fun x9 =>
              (slc (c :: t) 0 (IntKind.i64.wrap ((((c :: t).length : Nat) : Int) - (x9.length : Int)))).bind fun x10 =>
              (iM x10).bind fun x11 =>
              bif ((x11.2) != (0 : Int)) then
                (iB (aC.mk (c :: t) bad)).bind fun x12 =>
                some ((x12.1), (x12.2))
              else
                some ((aB.mk (1 : Int) (x11.1) ([] : aA) ([] : aA) ([] : List aB)), (aC.mk x9 bad))) =
            some (match (if fP (c :: t) = 0 then none else some ((c :: t).take (fP (c :: t)), (c :: t).drop (fP (c :: t))) : Option (aA × aA)) with
              | some (w, s') => if (dR w).Kind = 0 then (fQ, aC.mk [] true) else (dR w, aC.mk s' bad)
              | none => (fQ, aC.mk [] true)) := by
          intro q h36 hq hw x8 h8 h8l
          rw [num x8 h8l, aNR, h8, hw, if_neg (by omega)]
          have hl2 := nM fO t
          rw [<- hq] at hl2
          have e : IntKind.i64.wrap ((((c :: t).length : Nat) : Int) - ((dw fO t).length : Int)) = ((1 + q.length : Nat) : Int) := by rw [aNT, wrap_i64 (by omega) (by omega)]; omega
          have e1 : (c :: t).take (1 + q.length) = c :: q := by rw [Nat.add_comm, List.take_succ_cons, hq, oU]
          have e2 : (c :: t).drop (1 + q.length) = dw fO t := by rw [Nat.add_comm, aNZ, hq, p5]
          have hql : (c :: q).length <= maxLen := by rw [aNT]; unfold maxLen; omega
          rw [e, mF _ _ (by rw [aNT]; omega), aNR, e1, sI hql, aNR, e2]
          have e3 : dR (c :: q) = bif (sgn (c :: q)).2 == 0 then aB.mk 1 (sgn (c :: q)).1 [] [] [] else fQ := by
            unfold dR
            rw [show ((c :: q).head? == some 39) = (c == 39) from rfl, hc, aNQ, oY (by rw [gE]; exact h36)]; rfl
          dsimp only
          rw [e3]
          rw [show ((sgn (c :: q)).2 != 0) = !((sgn (c :: q)).2 == 0) from rfl]
          cases (sgn (c :: q)).2 == 0 <;> rfl
        cases h45 : c == 45 with
        | true =>
          have := eq_of_beq h45
          subst this
          rw [aNP]
          exact hdig _ rfl rfl (by rw [hwn]; rfl) t rfl (by omega)
        | false =>
          rw [aNQ]
          cases hd : fO c with
          | true =>
            refine hdig _ ?_ rfl (by rw [hwn, hd]; rfl) (c :: t) (by rw [yU, hd]; rfl) hlc
            cases h36 : c == 36 with
            | false => rfl
            | true => rw [eq_of_beq h36] at hd; exact absurd hd (by decide)
          | false =>
            rw [hd, h45] at hwn
            have hwn : fP (c :: t) = bif (t.head? == some 61) && sgnB c then 2 else bif oneB c then 1 else 0 := hwn
            rw [num (c :: t) hlc, aNR, show dw fO (c :: t) = c :: t by rw [yU, hd]; rfl]
            have e : IntKind.i64.wrap ((((c :: t).length : Nat) : Int) - (((c :: t).length : Nat) : Int)) = ((0 : Nat) : Int) := by rw [wrap_i64 (by omega) (by omega)]; omega
            rw [e, mF _ 0 (aN4 _), aNR, List.take_zero, sI (aN4 _), aNR]
            show some (fQ, aC.mk [] true) = _
            by_cases h0 : fP (c :: t) = 0
            · rw [if_pos h0]
            · rw [if_neg h0]
              have h36 : (c == 36) = false := by
                cases h36 : c == 36 with
                | false => rfl
                | true =>
                  rw [eq_of_beq h36] at hwn h0
                  rw [hwn] at h0
                  exact absurd (by simp [sgnB, oneB]) h0
              obtain ⟨k, hk⟩ : ∃ k, fP (c :: t) = k + 1 := ⟨fP (c :: t) - 1, by omega⟩
              rw [hk, List.take_succ_cons]
              dsimp only
              rw [sK hc h36 hd h45]; rfl
end Go.Proofs.YtdobepgddhbncaaGreatDoor
