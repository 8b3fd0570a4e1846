/-
  Plain laws of the plays, 2: what is printed.
-/
import Derived.Test.YtkfoahoplndelaaGreatDoorPs1
namespace Go.Proofs.YtkfoahoplndelaaGreatDoor
open Go Go.Pm
set_option linter.unusedVariables false
set_option maxRecDepth 100000

theorem IndexFunc_route {l : List S_Route} {pi : S_Route → Option Bool} (p : S_Route → Bool) (hp : ∀ b, b ∈ l → pi b = some (p b)) (hl : l.length ≤ maxLen) : slices_IndexFunc__api_Route_api_Route l pi = some (idxP p l 0) := by
  unfold slices_IndexFunc__api_Route_api_Route
  rw [← foldE_idx]
  refine loop_list l (fun i _ => (i : Int)) _ _ (fun i b => b = i) (fun i b x hx hi => ?_) (fun b hi => ?_) 0 rfl
  · subst hi
    have hlt := lt_of_get hx
    unfold slices_IndexFunc__api_Route_api_Route_b1
    rw [dlt_true hlt, cond_true, idx_at hx, Option.bind_some, hp x (List.mem_of_getElem? hx), Option.bind_some]
    cases p x with
    | true => exact .inr ⟨_, rfl, rfl⟩
    | false => exact .inl ⟨_, rfl, by rw [wrap_inc hlt hl]; rfl, rfl⟩
  · unfold slices_IndexFunc__api_Route_api_Route_b1
    rw [dlt_self]; rfl
theorem ContainsFunc_route {l : List S_Route} {pi : S_Route → Option Bool} (p : S_Route → Bool) (hp : ∀ b, b ∈ l → pi b = some (p b)) (hl : l.length ≤ maxLen) : slices_ContainsFunc__api_Route_api_Route l pi = some (l.any p) := by
  unfold slices_ContainsFunc__api_Route_api_Route
  rw [IndexFunc_route p hp hl, Option.bind_some, idxP_any]

theorem IndexFunc_deed {l : List S_Deed} {pi : S_Deed → Option Bool} (p : S_Deed → Bool) (hp : ∀ b, b ∈ l → pi b = some (p b)) (hl : l.length ≤ maxLen) : slices_IndexFunc__api_Deed_api_Deed l pi = some (idxP p l 0) := by
  unfold slices_IndexFunc__api_Deed_api_Deed
  rw [← foldE_idx]
  refine loop_list l (fun i _ => (i : Int)) _ _ (fun i b => b = i) (fun i b x hx hi => ?_) (fun b hi => ?_) 0 rfl
  · subst hi
    have hlt := lt_of_get hx
    unfold slices_IndexFunc__api_Deed_api_Deed_b1
    rw [dlt_true hlt, cond_true, idx_at hx, Option.bind_some, hp x (List.mem_of_getElem? hx), Option.bind_some]
    cases p x with
    | true => exact .inr ⟨_, rfl, rfl⟩
    | false => exact .inl ⟨_, rfl, by rw [wrap_inc hlt hl]; rfl, rfl⟩
  · unfold slices_IndexFunc__api_Deed_api_Deed_b1
    rw [dlt_self]; rfl
theorem ContainsFunc_deed {l : List S_Deed} {pi : S_Deed → Option Bool} (p : S_Deed → Bool) (hp : ∀ b, b ∈ l → pi b = some (p b)) (hl : l.length ≤ maxLen) : slices_ContainsFunc__api_Deed_api_Deed l pi = some (l.any p) := by
  unfold slices_ContainsFunc__api_Deed_api_Deed
  rw [IndexFunc_deed p hp hl, Option.bind_some, idxP_any]


theorem cand (a b : Bool) : (bif a then b else false) = (a && b) := by cases a <;> rfl
theorem cor (a b : Bool) : (bif a then true else b) = (a || b) := by cases a <;> rfl

/-! ### Rows of routes -/
noncomputable def rr (r : S_Route) : Bool := (route_right r).getD false
theorem rr_eq {r : S_Route} (h : RSm r) : route_right r = some (rr r) := by
  obtain ⟨x, h1, _⟩ := rright_tot h
  unfold rr; rw [h1]; rfl
theorem rr_ok {r : S_Route} (h : RSm r) (hr : rr r = true) : ROk r := by
  obtain ⟨x, h1, h2⟩ := rright_tot h
  unfold rr at hr
  rw [h1] at hr
  exact h2 hr
def keyOf (r : S_Route) : S_route_key := S_route_key.mk r.Host r.Prefix
def kmap : List S_Route → List (S_route_key × Bool) → List (S_route_key × Bool)
  | [], m => m
  | r :: l, m => kmap l (mins m (keyOf r) true)
theorem mins_len {κ ν : Type} [BEq κ] (k : κ) (v : ν) : ∀ (l : List (κ × ν)), (mins l k v).length ≤ l.length + 1
  | [] => by simp [mins]
  | p :: l => by
    unfold mins
    cases (k == p.1) with
    | true => simp
    | false => have := mins_len k v l; simp; omega
theorem kmap_le : ∀ (l : List S_Route) (m : List (S_route_key × Bool)), (kmap l m).length ≤ m.length + l.length
  | [], m => Nat.le_refl _
  | r :: l, m => by
    unfold kmap
    have := kmap_le l (mins m (keyOf r) true)
    have := mins_len (keyOf r) true m
    simp; omega
theorem kmap_app : ∀ (a b : List S_Route) (m : List (S_route_key × Bool)), kmap (a ++ b) m = kmap b (kmap a m)
  | [], b, m => rfl
  | r :: a, b, m => by rw [List.cons_append, kmap, kmap_app a b]; rfl
noncomputable def routesB (l : List S_Route) : Bool := l.all rr && (decide (l.length ≤ 16) && ((kmap l []).length == l.length))
theorem routesB_pre {a b : List S_Route} (h : routesB (a ++ b) = true) : routesB a = true := by
  unfold routesB at h ⊢
  simp only [List.all_append, Bool.and_eq_true, beq_iff_eq, decide_eq_true_eq, List.length_append, kmap_app] at h ⊢
  obtain ⟨⟨h1, _⟩, h2, h3⟩ := h
  have h4 := kmap_le b (kmap a [])
  have h5 := kmap_le a []
  simp at h5
  exact ⟨h1, by omega, by omega⟩
theorem routesB_nil : routesB [] = true := rfl
theorem routesB_all {l : List S_Route} (h : routesB l = true) : (∀ r, r ∈ l → rr r = true) ∧ l.length ≤ 16 := by
  unfold routesB at h
  simp only [Bool.and_eq_true, decide_eq_true_eq, List.all_eq_true] at h
  exact ⟨h.1, h.2.1⟩
theorem RRight_eq {l : List S_Route} (hl : l.length ≤ 1000000) (h : ∀ r, r ∈ l → RSm r) : route_Right l = some (routesB l) := by
  have key : ∀ (rest : List S_Route) (i : Nat) (m : List (S_route_key × Bool)), l.drop i = rest → i ≤ l.length → m.length ≤ i →
      loopO (route_Right_b1 l) ((i : Int), m) = some (rest.all rr && (decide (l.length ≤ 16) && ((kmap rest m).length == l.length))) := by
    intro rest
    induction rest with
    | nil =>
      intro i m hd hi hm
      have hi' : i = l.length := by
        have := congrArg List.length hd
        rw [List.length_drop] at this
        simp at this; omega
      subst hi'
      have hb : route_Right_b1 l ((l.length : Int), m) = some (.inr (decide (l.length ≤ 16) && (m.length == l.length))) := by
        unfold route_Right_b1
        dsimp only
        rw [dlt_self, cond_false, chk_pos (big1 (by omega)), cand]
        have e1 : decide ((l.length : Int) ≤ (16 : Int)) = decide (l.length ≤ 16) := by simp; omega
        have e2 : ((m.length : Int) == (l.length : Int)) = (m.length == l.length) := by rw [Bool.eq_iff_iff]; simp; omega
        rw [e1, e2]
      rw [loopO_eq, hb]
      simp [kmap]
    | cons r rest ih =>
      intro i m hd hi hm
      have hx : l[i]? = some r := by
        have := congrArg (fun l => l[0]?) hd
        simpa using this
      have hlt := lt_of_get hx
      have hd' : l.drop (i + 1) = rest := by
        have := congrArg List.tail hd
        simpa using this
      have hb : route_Right_b1 l ((i : Int), m) = bif rr r then some (.inl (((i + 1 : Nat) : Int), mins m (keyOf r) true)) else some (.inr false) := by
        unfold route_Right_b1
        dsimp only
        rw [dlt_true hlt, cond_true, idx_at hx, Option.bind_some, rr_eq (h r (List.mem_of_getElem? hx)), Option.bind_some, wrap_inc hlt (big1 hl)]
        cases rr r <;> rfl
      rw [loopO_eq, hb, List.all_cons, kmap]
      cases hr : rr r with
      | false => rfl
      | true =>
        show loopO _ _ = _
        rw [ih (i + 1) _ hd' hlt (by have := mins_len (keyOf r) true m; omega)]
        rfl
  exact key l 0 [] rfl (Nat.zero_le _) (Nat.le_refl _)

/-! ### Deeds -/
noncomputable def rightD (d : S_Deed) : Bool := (script_right d).getD false
theorem right_eq (d : S_Deed) : script_right d = some (rightD d) := rfl
structure DOk (d : S_Deed) : Prop where
  kind : 1 ≤ d.Kind ∧ d.Kind ≤ 6
  at_ : 0 ≤ d.At ∧ d.At ≤ 100000
  at0 : d.Kind = 2 ∨ d.Kind = 4 ∨ d.Kind = 5 ∨ d.At = 0
  len : d.Bytes.length ≤ 3000
  by0 : d.Kind = 1 ∨ d.Kind = 4 ∨ d.Bytes = []
  cl0 : d.Kind = 5 ∨ d.Clean = false
theorem rightD_ok {d : S_Deed} (h : rightD d = true) : DOk d := by
  unfold rightD script_right at h
  simp only [Option.getD_some, cand, cor, Bool.and_eq_true, Bool.or_eq_true, decide_eq_true_eq, beq_iff_eq, Bool.not_eq_true'] at h
  obtain ⟨⟨⟨⟨⟨⟨⟨h1, h2⟩, h3⟩, h4⟩, h5⟩, h6⟩, h7⟩, h8⟩ := h
  exact ⟨⟨h1, h2⟩, ⟨h3, h4⟩, by rcases h5 with ((h | h) | h) | h <;> simp [h], by omega, by rcases h7 with (h | h) | h <;> simp [h], h8⟩
def hexs : Bytes := [48, 49, 50, 51, 52, 53, 54, 55, 56, 57, 97, 98, 99, 100, 101, 102]
def hexit (n : Nat) : UInt8 := hexs.getD n 0
def hex2 (b : UInt8) : Bytes := [hexit (b.toNat / 16), hexit (b.toNat % 16)]
def hexW (s : Bytes) : Bytes := s.flatMap hex2
theorem hexW_len (s : Bytes) : (hexW s).length = 2 * s.length := by
  induction s with
  | nil => rfl
  | cons b s ih => unfold hexW at ih ⊢; rw [List.flatMap_cons, List.length_append, ih]; simp [hex2]; omega
theorem hi_idx (b : UInt8) : idx hexs ((b.toNat : Int) / 2 ^ (4 : Int).toNat) = some (hexit (b.toNat / 16)) :=
  of_decide_eq_true (byte_all (p := fun b => decide (idx hexs ((b.toNat : Int) / 2 ^ (4 : Int).toNat) = some (hexit (b.toNat / 16)))) (by kernel_rfl) b)
theorem lo_idx (b : UInt8) : idx hexs (bits .and .u8 (b.toNat : Int) (15 : Int)) = some (hexit (b.toNat % 16)) :=
  of_decide_eq_true (byte_all (p := fun b => decide (idx hexs (bits .and .u8 (b.toNat : Int) (15 : Int)) = some (hexit (b.toNat % 16)))) (by kernel_rfl) b)
theorem hi_wrap (b : UInt8) : (0 ≤ (4 : Int) ∧ (4 : Int) ≤ (IntKind.u8.bits : Int)) ∧ IntKind.u8.wrap ((b.toNat : Int) / 2 ^ (4 : Int).toNat) = (b.toNat : Int) / 2 ^ (4 : Int).toNat := by
  have h := b.toNat_lt
  have e : (2 : Int) ^ (4 : Int).toNat = 16 := rfl
  rw [e]
  exact ⟨⟨by omega, by decide⟩, wrap_u8 (by omega) (by omega)⟩
theorem hexed_eq {s : Bytes} (hs : s.length ≤ 100000) : script_hexed s = some (hexW s) := by
  have key : ∀ (rest : Bytes) (i : Nat), s.drop i = rest → i ≤ s.length → loopO (script_hexed_b1 s) (hexW (s.take i), (i : Int)) = some (hexW s) := by
    intro rest
    induction rest with
    | nil =>
      intro i hd hi
      have hi' : i = s.length := by
        have := congrArg List.length hd
        rw [List.length_drop] at this
        simp at this; omega
      subst hi'
      rw [loopO_eq, List.take_length]
      unfold script_hexed_b1
      dsimp only
      rw [dlt_self]; rfl
    | cons b rest ih =>
      intro i hd hi
      have hx : s[i]? = some b := by
        have := congrArg (fun l => l[0]?) hd
        simpa using this
      have hlt := lt_of_get hx
      have hd' : s.drop (i + 1) = rest := by
        have := congrArg List.tail hd
        simpa using this
      have hb : script_hexed_b1 s (hexW (s.take i), (i : Int)) = some (.inl (hexW (s.take (i + 1)), ((i + 1 : Nat) : Int))) := by
        unfold script_hexed_b1
        dsimp only
        rw [dlt_true hlt, cond_true, idx_at hx, Option.bind_some, chk_pos (hi_wrap b)]
        show ((idx hexs ((b.toNat : Int) / 2 ^ (4 : Int).toNat)).bind fun x6 => (some b).bind fun x7 => (idx hexs (bits .and .u8 (x7.toNat : Int) (15 : Int))).bind _) = _
        rw [hi_idx, Option.bind_some, Option.bind_some, lo_idx, Option.bind_some, u8_nat, u8_nat, app_ok (by rw [hexW_len]; simp; omega) (by omega), Option.bind_some, wrap_inc hlt (big1 (by omega))]
        have e : hexW (s.take (i + 1)) = hexW (s.take i) ++ [hexit (b.toNat / 16), hexit (b.toNat % 16)] := by
          rw [List.take_add_one, hx]
          unfold hexW
          rw [List.flatMap_append]; rfl
        rw [e]
      rw [loopO_eq, hb]
      exact ih (i + 1) hd' hlt
  unfold script_hexed
  have := key s 0 rfl (Nat.zero_le _)
  rw [show hexW (s.take 0) = [] from rfl] at this
  show ((loopO (script_hexed_b1 s) (([] : List UInt8), ((0 : Nat) : Int)) : Option Bytes).bind _) = _
  rw [this]; rfl
def wrd (s : Bytes) : Bytes := bif s == ([] : Bytes) then [45] else s
theorem word_eq2 (s : Bytes) : script_word s = some (wrd s) := by
  unfold script_word wrd
  cases (s == ([] : Bytes)) <;> rfl
theorem wrd_le (s : Bytes) : (wrd s).length ≤ s.length + 1 := by
  unfold wrd
  cases (s == ([] : Bytes)) <;> simp
theorem sbytes_eq {s : Bytes} (hs : s.length ≤ 100000) : script_bytes s = some (wrd (hexW s)) := by
  unfold script_bytes
  rw [hexed_eq hs, Option.bind_some, word_eq2]; rfl
def dg (n : Int) : Bytes := Lib.decDigits n.toNat
theorem dg_le {n : Int} (h : 0 ≤ n ∧ n ≤ 100000) : (dg n).length ≤ 6 := by
  have key : ∀ (k n : Nat), n < 10 ^ (k + 1) → (Lib.decDigits n).length ≤ k + 1 := by
    intro k
    induction k with
    | zero => intro n hn; rw [digits_lo (by omega)]; simp
    | succ k ih =>
      intro n hn
      by_cases h : n < 10
      · rw [digits_lo h]; simp
      · rw [digits_hi h, List.length_append]
        have := ih (n / 10) (by rw [Nat.pow_succ] at hn; omega)
        simp; omega
  exact key 5 _ (by omega)
theorem sdec_eq {n : Int} (h : 0 ≤ n ∧ n ≤ 100000) : number_Dec (IntKind.u64.wrap n) = some (dg n) := by
  rw [wrap_u64 (by omega) (by omega)]
  have := Dec_eq n.toNat (by omega)
  rwa [show ((n.toNat : Nat) : Int) = n by omega] at this
def wIn : Bytes := [105, 110]
def wWrite : Bytes := [119, 114, 105, 116, 101]
def wLeft : Bytes := [108, 101, 102, 116]
def wCame : Bytes := [99, 97, 109, 101]
def wGone : Bytes := [103, 111, 110, 101]
def wTick : Bytes := [116, 105, 99, 107]
def clean : Bytes := [99, 108, 101, 97, 110]
def torn : Bytes := [116, 111, 114, 110]
/-- The words of a deed's line. -/
def lineW (d : S_Deed) : List Bytes :=
  if d.Kind = 1 then [wIn, wrd (hexW d.Bytes)] else if d.Kind = 2 then [wWrite, dg d.At] else if d.Kind = 3 then [wLeft] else if d.Kind = 4 then [wCame, dg d.At, wrd (hexW d.Bytes)]
  else if d.Kind = 5 then [wGone, dg d.At, bif d.Clean then clean else torn] else [wTick]
def lineB (d : S_Deed) : Bytes := Lib.join (lineW d) [32]
theorem join_len (sep : Bytes) (M : Nat) : ∀ (l : List Bytes), (∀ s, s ∈ l → s.length + sep.length ≤ M) → (Lib.join l sep).length ≤ l.length * M
  | [], _ => by simp [Lib.join]
  | [x], h => by have := h x (by simp); simp [Lib.join, List.intercalate]; omega
  | x :: y :: l, h => by
    have h1 := join_len sep M (y :: l) fun s hs => h s (List.mem_cons_of_mem _ hs)
    have h2 := h x (by simp)
    have : Lib.join (x :: y :: l) sep = x ++ (sep ++ Lib.join (y :: l) sep) := by simp [Lib.join, List.intercalate, List.intersperse]
    rw [this, List.length_append, List.length_append, List.length_cons, Nat.add_mul]
    omega
theorem sjoin_eq {l : List Bytes} (sep : Bytes) (hl : l.length ≤ 1000) (h : ∀ s, s ∈ l → s.length + sep.length ≤ 1000000) : strings_Join l sep = some (Lib.join l sep) := by
  unfold strings_Join
  have h1 := join_len sep 1000000 l h
  have h2 : l.length * 1000000 ≤ 1000 * 1000000 := Nat.mul_le_mul_right _ hl
  rw [chk_pos ⟨by omega, by omega⟩]
theorem line_eq {d : S_Deed} (h : DOk d) : script_line d = some (lineB d) := by
  obtain ⟨⟨k1, k2⟩, ha, h3, hb, h5, h6⟩ := h
  obtain ⟨k, n, bs, c⟩ := d
  simp only at k1 k2 ha h3 hb h5 h6
  have hb' : bs.length ≤ 100000 := by omega
  have hw : (wrd (hexW bs)).length ≤ 6001 := by have := wrd_le (hexW bs); rw [hexW_len] at this; omega
  have hd := dg_le ha
  have hdec : number_Dec (IntKind.u64.wrap n) = some (dg n) := sdec_eq ha
  unfold script_line script_words
  rw [Option.bind_some]
  have hk : k = 1 ∨ k = 2 ∨ k = 3 ∨ k = 4 ∨ k = 5 ∨ k = 6 := by omega
  rcases hk with rfl | rfl | rfl | rfl | rfl | rfl
  · show ((script_bytes bs).bind fun x13 => (app 16 ([wIn] : List Bytes) [x13]).bind fun x14 => (strings_Join x14 [32]).bind fun x15 => some x15) = _
    rw [sbytes_eq hb', Option.bind_some, app_ok (by simp) (by omega), Option.bind_some, sjoin_eq _ (by simp) (fun s hs => by simp at hs; rcases hs with rfl | rfl <;> simp [wIn]; omega)]
    rfl
  · have hc : c = false := h6.resolve_left (by omega)
    subst hc
    show ((number_Dec (IntKind.u64.wrap n)).bind fun x3 => (app 16 ([wWrite] : List Bytes) [x3]).bind fun x4 => (strings_Join x4 [32]).bind fun x12 => some x12) = _
    rw [hdec, Option.bind_some, app_ok (by simp) (by omega), Option.bind_some, sjoin_eq _ (by simp) (fun s hs => by simp at hs; rcases hs with rfl | rfl <;> simp [wWrite]; omega)]
    rfl
  · have hc : c = false := h6.resolve_left (by omega)
    subst hc
    show ((strings_Join ([wLeft] : List Bytes) [32]).bind fun x20 => some x20) = _
    rw [sjoin_eq _ (by simp) (fun s hs => by simp at hs; subst hs; simp [wLeft])]
    rfl
  · show ((number_Dec (IntKind.u64.wrap n)).bind fun x3 => (app 16 ([wCame] : List Bytes) [x3]).bind fun x4 => (script_bytes bs).bind fun x5 => (app 16 x4 [x5]).bind fun x6 => (strings_Join x6 [32]).bind fun x7 => some x7) = _
    rw [hdec, Option.bind_some, app_ok (by simp) (by omega), Option.bind_some, sbytes_eq hb', Option.bind_some, app_ok (by simp) (by omega), Option.bind_some, sjoin_eq _ (by simp) (fun s hs => by simp at hs; rcases hs with rfl | rfl | rfl <;> simp [wCame] <;> omega)]
    rfl
  · cases c with
    | true =>
      show ((number_Dec (IntKind.u64.wrap n)).bind fun x3 => (app 16 ([wGone] : List Bytes) [x3]).bind fun x4 => (app 16 x4 [clean]).bind fun x8 => (strings_Join x8 [32]).bind fun x9 => some x9) = _
      rw [hdec, Option.bind_some, app_ok (by simp) (by omega), Option.bind_some, app_ok (by simp) (by omega), Option.bind_some, sjoin_eq _ (by simp) (fun s hs => by simp at hs; rcases hs with rfl | rfl | rfl <;> simp [wGone, clean] <;> omega)]
      rfl
    | false =>
      show ((number_Dec (IntKind.u64.wrap n)).bind fun x3 => (app 16 ([wGone] : List Bytes) [x3]).bind fun x4 => (app 16 x4 [torn]).bind fun x8 => (strings_Join x8 [32]).bind fun x9 => some x9) = _
      rw [hdec, Option.bind_some, app_ok (by simp) (by omega), Option.bind_some, app_ok (by simp) (by omega), Option.bind_some, sjoin_eq _ (by simp) (fun s hs => by simp at hs; rcases hs with rfl | rfl | rfl <;> simp [wGone, torn] <;> omega)]
      rfl
  · have hc : c = false := h6.resolve_left (by omega)
    subst hc
    show ((strings_Join ([wTick] : List Bytes) [32]).bind fun x20 => some x20) = _
    rw [sjoin_eq _ (by simp) (fun s hs => by simp at hs; subst hs; simp [wTick])]
    rfl

/-! ### Plans -/
def wRoute : Bytes := [114, 111, 117, 116, 101]
def wDev : Bytes := [100, 101, 118, 105, 99, 101, 32]
def wayB (r : S_Route) : Bytes := Lib.join [wRoute, wrd r.Host, r.Prefix, r.Origin] [32]
theorem way_eq {r : S_Route} (h : RSm r) : script_way r = some (wayB r) := by
  unfold script_way
  have h1 := h.host
  have h2 := h.pre
  have h3 := h.origin
  have h4 := wrd_le r.Host
  rw [word_eq2, Option.bind_some]
  show ((strings_Join [wRoute, wrd r.Host, r.Prefix, r.Origin] [32]).bind _) = _
  rw [sjoin_eq _ (by simp) (fun s hs => by simp at hs; rcases hs with rfl | rfl | rfl | rfl <;> simp [wRoute] <;> omega)]
  rfl
structure PSm (p : S_Plan) : Prop where
  dev : p.Device.length ≤ 100000
  nr : p.Routes.length ≤ 500
  routes : ∀ r, r ∈ p.Routes → RSm r
  nd : p.Deeds.length ≤ 400
noncomputable def planB (p : S_Plan) : Bool :=
  (tokenB p.Device && decide (p.Device.length ≤ 40)) && (routesB p.Routes && ((p.Routes.all fun r => !(r.Host == ([45] : Bytes))) && (decide (p.Deeds.length ≤ 200) && p.Deeds.all rightD)))
theorem device_eq {s : Bytes} (hs : s.length ≤ maxLen) : script_device s = some (tokenB s && decide (s.length ≤ 40)) := by
  unfold script_device
  rw [Token_eq hs, Option.bind_some, cand]
  have e1 : decide ((s.length : Int) ≤ (40 : Int)) = decide (s.length ≤ 40) := by simp; omega
  rw [e1]
theorem any_not {α : Type} (p : α → Bool) (l : List α) : (!(l.any fun x => !(p x))) = l.all p := by
  rw [List.not_any_eq_all_not]; simp
theorem SRight_eq {p : S_Plan} (h : PSm p) : script_Right p = some (planB p) := by
  unfold script_Right planB
  have hr : script_all_api_Route p.Routes (fun x0 => script_Right_1 x0) = some (p.Routes.all fun r => !(r.Host == ([45] : Bytes))) := by
    unfold script_all_api_Route
    rw [ContainsFunc_route (l := p.Routes) (pi := fun x0 => script_all_api_Route_1 x0 fun x0 => script_Right_1 x0) (fun r => !(!(r.Host == ([45] : Bytes)))) (fun b _ => rfl) (big1 (by have := h.nr; omega)), Option.bind_some]
    exact congrArg some (any_not (fun r => !(r.Host == ([45] : Bytes))) p.Routes)
  have hd : script_all_api_Deed p.Deeds (fun x0 => script_right x0) = some (p.Deeds.all rightD) := by
    unfold script_all_api_Deed
    rw [ContainsFunc_deed (l := p.Deeds) (pi := fun x0 => script_all_api_Deed_1 x0 fun x0 => script_right x0) (fun d => !(rightD d)) (fun b _ => rfl) (big1 (by have := h.nd; omega)), Option.bind_some]
    exact congrArg some (any_not rightD p.Deeds)
  have e1 : decide ((p.Deeds.length : Int) ≤ (200 : Int)) = decide (p.Deeds.length ≤ 200) := by simp; omega
  rw [device_eq (big1 (by have := h.dev; omega)), Option.bind_some, gcall_val (fun _ => RRight_eq (by have := h.nr; omega) h.routes), Option.bind_some, gcall_val (fun _ => hr), Option.bind_some, gcall_val (fun _ => hd), Option.bind_some, e1]
  refine congrArg some ?_
  cases (tokenB p.Device && decide (p.Device.length ≤ 40)) <;> cases routesB p.Routes <;> cases (p.Routes.all fun r => !(r.Host == ([45] : Bytes))) <;> cases decide (p.Deeds.length ≤ 200) <;> rfl
def nl (s : Bytes) : Bytes := s ++ [10]
def textB (p : S_Plan) : Bytes := nl (wDev ++ p.Device) ++ ((p.Routes.flatMap fun r => nl (wayB r)) ++ p.Deeds.flatMap fun d => nl (lineB d))
theorem join_nl (x : Bytes) (l : List Bytes) : Lib.join (x :: l) [10] ++ [10] = (x :: l).flatMap nl := by
  rw [Lib.join_cons, List.flatMap_cons]
  unfold Lib.joinTail nl
  induction l generalizing x with
  | nil => simp
  | cons y l ih =>
    have := ih y
    simp at this ⊢
    exact this
structure PGood (p : S_Plan) : Prop where
  small : PSm p
  ok : planB p = true
theorem PGood.facts {p : S_Plan} (h : PGood p) : (tokenB p.Device = true ∧ p.Device.length ≤ 40) ∧ routesB p.Routes = true ∧ (∀ r, r ∈ p.Routes → r.Host ≠ [45]) ∧ p.Deeds.length ≤ 200 ∧ ∀ d, d ∈ p.Deeds → rightD d = true := by
  have := h.ok
  unfold planB at this
  simp only [Bool.and_eq_true, decide_eq_true_eq, List.all_eq_true, Bool.not_eq_true', beq_eq_false_iff_ne] at this
  exact ⟨this.1, this.2.1, this.2.2.1, this.2.2.2.1, this.2.2.2.2⟩
theorem way_len {r : S_Route} (h : RSm r) : (wayB r).length ≤ 400010 := by
  have h1 := h.host
  have h2 := h.pre
  have h3 := h.origin
  have h4 := wrd_le r.Host
  have := join_len [32] 100002 [wRoute, wrd r.Host, r.Prefix, r.Origin] (fun s hs => by simp at hs; rcases hs with rfl | rfl | rfl | rfl <;> simp [wRoute] <;> omega)
  unfold wayB
  simp at this ⊢; omega
theorem line_len {d : S_Deed} (h : DOk d) : (lineB d).length ≤ 20000 := by
  have hw : (wrd (hexW d.Bytes)).length ≤ 6001 := by have := wrd_le (hexW d.Bytes); rw [hexW_len] at this; have := h.len; omega
  have hd := dg_le h.at_
  have : ∀ s, s ∈ lineW d → s.length + ([32] : Bytes).length ≤ 6010 := by
    intro s hs
    unfold lineW at hs
    repeat' split at hs
    all_goals simp at hs
    all_goals rcases hs with rfl | hs
    all_goals first | (simp [wIn, wWrite, wLeft, wCame, wGone, wTick]; done) | skip
    all_goals first | (rcases hs with rfl | rfl) | (subst hs)
    all_goals first | (simp; omega) | (cases d.Clean <;> simp [clean, torn])
  have h2 := join_len [32] 6010 (lineW d) this
  have h3 : (lineW d).length ≤ 3 := by
    unfold lineW
    repeat' split
    all_goals simp
  have h4 : (lineW d).length * 6010 ≤ 3 * 6010 := Nat.mul_le_mul_right _ h3
  unfold lineB; omega
theorem SPrint_eq {p : S_Plan} (h : PSm p) : script_Print p = some (bif planB p then (textB p, 0) else ([], 1)) := by
  unfold script_Print
  rw [SRight_eq h, Option.bind_some]
  cases hp : planB p with
  | false => rfl
  | true =>
    obtain ⟨⟨f1, f2⟩, f3, f4, f5, f6⟩ := PGood.facts ⟨h, hp⟩
    have hnr := (routesB_all f3).2
    rw [Bool.not_true, cond_false]
    rw [show ([100, 101, 118, 105, 99, 101, 32] : Bytes) = wDev from rfl, cat_ok (big1 (by simp [wDev]; omega)), Option.bind_some]
    have k1 : ∀ (rest : List S_Route) (i : Nat), p.Routes.drop i = rest → i ≤ p.Routes.length → loopO (script_Print_b1 p) ((wDev ++ p.Device) :: (p.Routes.take i).map wayB, (i : Int)) = some ((wDev ++ p.Device) :: p.Routes.map wayB) := by
      intro rest
      induction rest with
      | nil =>
        intro i hd hi
        have hi' : i = p.Routes.length := by
          have := congrArg List.length hd
          rw [List.length_drop] at this
          simp at this; omega
        subst hi'
        rw [loopO_eq, List.take_length]
        unfold script_Print_b1
        dsimp only
        rw [dlt_self]; rfl
      | cons r rest ih =>
        intro i hd hi
        have hx : p.Routes[i]? = some r := by
          have := congrArg (fun l => l[0]?) hd
          simpa using this
        have hlt := lt_of_get hx
        have hd' : p.Routes.drop (i + 1) = rest := by
          have := congrArg List.tail hd
          simpa using this
        have hb : script_Print_b1 p ((wDev ++ p.Device) :: (p.Routes.take i).map wayB, (i : Int)) = some (.inl ((wDev ++ p.Device) :: (p.Routes.take (i + 1)).map wayB, ((i + 1 : Nat) : Int))) := by
          unfold script_Print_b1
          dsimp only
          rw [dlt_true hlt, cond_true, idx_at hx, Option.bind_some, way_eq (h.routes r (List.mem_of_getElem? hx)), Option.bind_some, app_ok (by simp; omega) (by omega), Option.bind_some, wrap_inc hlt (big1 (by omega)), List.take_add_one, hx]
          simp
        rw [loopO_eq, hb]
        exact ih (i + 1) hd' hlt
    have k2 : ∀ (rest : List S_Deed) (i : Nat), p.Deeds.drop i = rest → i ≤ p.Deeds.length → loopO (script_Print_b2 p) (((wDev ++ p.Device) :: p.Routes.map wayB) ++ (p.Deeds.take i).map lineB, (i : Int)) = some (((wDev ++ p.Device) :: p.Routes.map wayB) ++ p.Deeds.map lineB) := by
      intro rest
      induction rest with
      | nil =>
        intro i hd hi
        have hi' : i = p.Deeds.length := by
          have := congrArg List.length hd
          rw [List.length_drop] at this
          simp at this; omega
        subst hi'
        rw [loopO_eq, List.take_length]
        unfold script_Print_b2
        dsimp only
        rw [dlt_self]; rfl
      | cons d rest ih =>
        intro i hd hi
        have hx : p.Deeds[i]? = some d := by
          have := congrArg (fun l => l[0]?) hd
          simpa using this
        have hlt := lt_of_get hx
        have hd' : p.Deeds.drop (i + 1) = rest := by
          have := congrArg List.tail hd
          simpa using this
        have hb : script_Print_b2 p (((wDev ++ p.Device) :: p.Routes.map wayB) ++ (p.Deeds.take i).map lineB, (i : Int)) = some (.inl (((wDev ++ p.Device) :: p.Routes.map wayB) ++ (p.Deeds.take (i + 1)).map lineB, ((i + 1 : Nat) : Int))) := by
          unfold script_Print_b2
          dsimp only
          rw [dlt_true hlt, cond_true, idx_at hx, Option.bind_some, line_eq (rightD_ok (f6 d (List.mem_of_getElem? hx))), Option.bind_some, app_ok (by simp; omega) (by omega), Option.bind_some, wrap_inc hlt (big1 (by omega)), List.take_add_one, hx]
          simp
        rw [loopO_eq, hb]
        exact ih (i + 1) hd' hlt
    have e1 := k1 p.Routes 0 rfl (Nat.zero_le _)
    have e2 := k2 p.Deeds 0 rfl (Nat.zero_le _)
    simp only [List.take_zero, List.map_nil, List.append_nil] at e1 e2
    show ((loopO (script_Print_b1 p) ([wDev ++ p.Device], ((0 : Nat) : Int)) : Option (List Bytes)).bind fun j3 => (loopO (script_Print_b2 p) (j3, ((0 : Nat) : Int)) : Option (List Bytes)).bind _) = _
    rw [e1, Option.bind_some, e2, Option.bind_some]
    have hall : ∀ s, s ∈ ((wDev ++ p.Device) :: p.Routes.map wayB) ++ p.Deeds.map lineB → s.length + ([10] : Bytes).length ≤ 1000000 := by
      intro s hs
      simp only [List.mem_append, List.mem_cons, List.mem_map] at hs
      rcases hs with (rfl | ⟨r, hr, rfl⟩) | ⟨d, hd, rfl⟩
      · simp [wDev]; omega
      · have := way_len (h.routes r hr); simp; omega
      · have := line_len (rightD_ok (f6 d hd)); simp; omega
    have hlen : (((wDev ++ p.Device) :: p.Routes.map wayB) ++ p.Deeds.map lineB).length ≤ 1000 := by simp; omega
    have hj := join_len [10] 1000000 _ hall
    have hj2 : (((wDev ++ p.Device) :: p.Routes.map wayB) ++ p.Deeds.map lineB).length * 1000000 ≤ 1000 * 1000000 := Nat.mul_le_mul_right _ hlen
    rw [sjoin_eq _ hlen hall, Option.bind_some, cat_ok (by unfold maxLen; simp only [List.length_cons, List.length_nil]; omega), Option.bind_some]
    rw [List.cons_append, join_nl, cond_true]
    refine congrArg some (Prod.ext ?_ rfl)
    show List.flatMap nl _ = textB p
    unfold textB
    rw [List.flatMap_cons, List.flatMap_append, List.flatMap_map, List.flatMap_map]
theorem text_len {p : S_Plan} (h : PGood p) : (textB p).length ≤ 100000000 := by
  obtain ⟨⟨f1, f2⟩, f3, f4, f5, f6⟩ := h.facts
  have hnr := (routesB_all f3).2
  have key : ∀ {α : Type} (f : α → Bytes) (M : Nat) (l : List α), (∀ x, x ∈ l → (f x).length ≤ M) → (l.flatMap f).length ≤ l.length * M := by
    intro α f M l
    induction l with
    | nil => intro _; simp
    | cons x l ih =>
      intro hx
      rw [List.flatMap_cons, List.length_append, List.length_cons, Nat.add_mul]
      have := hx x (List.mem_cons_self ..)
      have := ih fun y hy => hx y (List.mem_cons_of_mem _ hy)
      omega
  have k1 := key (fun r => nl (wayB r)) 400011 p.Routes (fun r hr => by have := way_len (h.small.routes r hr); unfold nl; simp; omega)
  have k2 := key (fun d => nl (lineB d)) 20001 p.Deeds (fun d hd => by have := line_len (rightD_ok (f6 d hd)); unfold nl; simp; omega)
  have k3 : p.Routes.length * 400011 ≤ 16 * 400011 := Nat.mul_le_mul_right _ hnr
  have k4 : p.Deeds.length * 20001 ≤ 200 * 20001 := Nat.mul_le_mul_right _ f5
  unfold textB
  rw [List.length_append, List.length_append]
  have : (nl (wDev ++ p.Device)).length ≤ 100 := by unfold nl; simp [wDev]; omega
  omega
end Go.Proofs.YtkfoahoplndelaaGreatDoor
