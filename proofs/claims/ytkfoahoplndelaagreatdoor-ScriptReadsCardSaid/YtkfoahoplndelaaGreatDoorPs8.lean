/-
  Plain laws of the plays, 8: what the document says of plans. ScriptPrints holds.
-/
import Derived.Test.YtkfoahoplndelaaGreatDoorPs7
import Derived.Test.YtkfoahoplndelaaGreatDoorIm2
import Derived.Lib.ItoaMem
namespace Go.Proofs.YtkfoahoplndelaaGreatDoor
open Go Go.Pm
set_option linter.unusedVariables false
set_option maxRecDepth 100000

theorem any_loopA {α ρ : Type} {l : List α} {body : Int → Option (Int ⊕ ρ)} (p : α → Bool) (yes no : ρ) (hs : ∀ (i : Nat) (x : α), l[i]? = some x → body (i : Int) = some (bif p x then .inr yes else .inl (((i + 1 : Nat)) : Int)))
    (hf : body (l.length : Int) = some (.inr no)) : loopO body (0 : Int) = some (bif l.any p then yes else no) := by
  have hfold : ∀ (l : List α), foldE (β := Unit) (fun _ b => bif p b then .inr yes else .inl ()) (fun _ => no) l () = bif l.any p then yes else no := by
    intro l
    induction l with
    | nil => rfl
    | cons x l ih =>
      unfold foldE
      rw [List.any_cons]
      cases hx : p x with
      | true => rfl
      | false => exact ih
  rw [← hfold]
  refine loop_list l (fun i _ => (i : Int)) _ _ (fun _ _ => True) (fun i b x hx _ => ?_) (fun b _ => hf) () trivial
  have := hs i x hx
  cases hp : p x with
  | true => rw [hp] at this; exact .inr ⟨yes, rfl, this⟩
  | false => rw [hp] at this; exact .inl ⟨(), rfl, this, trivial⟩

/-! ### Addresses as the document says -/
theorem nat_beq (x b : UInt8) : ((x.toNat : Int) == (b.toNat : Int)) = (x == b) := by
  rw [Bool.eq_iff_iff, beq_iff_eq, beq_iff_eq]
  constructor
  · intro h; exact UInt8.toNat_inj.1 (by omega)
  · intro h; rw [h]
theorem find_eq {s : Bytes} (hs : s.length ≤ 1000000) (b : UInt8) : intarsiaref05_find s (b.toNat : Int) = some (idxP (fun x => x == b) s 0) := by
  unfold intarsiaref05_find
  rw [← foldE_idx]
  refine loop_list s (fun i _ => (i : Int)) _ _ (fun i b => b = i) (fun i c x hx hi => ?_) (fun c hi => ?_) 0 rfl
  · subst hi
    have hlt := lt_of_get hx
    unfold intarsiaref05_find_b1
    rw [dlt_true hlt, cond_true, idx_at hx, Option.bind_some, nat_beq]
    cases (x == b) with
    | true => exact .inr ⟨_, rfl, rfl⟩
    | false => exact .inl ⟨_, rfl, by rw [wrap_inc hlt (big1 hs)]; rfl, rfl⟩
  · unfold intarsiaref05_find_b1
    rw [dlt_self]; rfl
theorem find_has (s : Bytes) (b : UInt8) : decide (idxP (fun x => x == b) s 0 ≥ (0 : Int)) = s.contains b := by
  rw [idxP_any, List.contains_eq_any_beq]
  refine congrArg (fun f => s.any f) (funext fun x => ?_)
  exact BEq.comm
theorem find_lt (s : Bytes) (b : UInt8) : decide (idxP (fun x => x == b) s 0 < (0 : Int)) = !(s.contains b) := by
  rw [← find_has, Bool.eq_iff_iff]
  simp
theorem rbytes_eq {s : Bytes} (hs : s.length ≤ 1000000) : intarsiaref05_Bytes s = some (!(s.any badU)) := by
  unfold intarsiaref05_Bytes
  refine (any_loopA (l := s) badU false true (fun i x hx => ?_) ?_).trans ?_
  rotate_right 1
  · cases s.any badU <;> rfl
  · have hlt := lt_of_get hx
    unfold intarsiaref05_Bytes_b1
    rw [dlt_true hlt, cond_true, idx_at hx, Option.bind_some, gcall_val (fun _ => find_eq (by decide) x), Option.bind_some]
    have h2 := byte_eq (p := fun b => bif (bif (bif (decide ((b.toNat : Int) < (33 : Int))) then true else (decide ((b.toNat : Int) > (126 : Int)))) then true else ((b.toNat : Int) == (96 : Int))) then true else ([34, 35, 60, 62, 92, 94, 123, 124, 125] : Bytes).contains b) (q := badU) (by kernel_rfl) x
    rw [← h2, ← find_has]
    cases (bif (bif (decide ((x.toNat : Int) < (33 : Int))) then true else (decide ((x.toNat : Int) > (126 : Int)))) then true else ((x.toNat : Int) == (96 : Int))) with
    | true => rfl
    | false =>
      show (bif (decide (idxP (fun y => y == x) ([34, 35, 60, 62, 92, 94, 123, 124, 125] : Bytes) 0 ≥ (0 : Int))) then (some (Sum.inr false) : Option (Int ⊕ Bool)) else some (Sum.inl (IntKind.i64.wrap ((i : Int) + (1 : Int))))) = some (bif (decide (idxP (fun y => y == x) ([34, 35, 60, 62, 92, 94, 123, 124, 125] : Bytes) 0 ≥ (0 : Int))) then _ else _)
      rw [wrap_inc hlt (big1 hs)]
      cases (decide (idxP (fun y => y == x) ([34, 35, 60, 62, 92, 94, 123, 124, 125] : Bytes) 0 ≥ (0 : Int))) <;> rfl
  · unfold intarsiaref05_Bytes_b1
    rw [dlt_self]; rfl
theorem rhostc_eq {s : Bytes} (hs : s.length ≤ 1000000) : intarsiaref05_host s = some (hostB s) := by
  unfold intarsiaref05_host
  refine (any_loopA (l := s) badH false (decide (1 ≤ s.length) && decide (s.length ≤ 100)) (fun i x hx => ?_) ?_).trans ?_
  rotate_right 1
  · unfold hostB
    cases s.any badH <;> simp
  · have hlt := lt_of_get hx
    unfold intarsiaref05_host_b1
    rw [dlt_true hlt, cond_true, idx_at hx, Option.bind_some, find_eq (by decide) x, Option.bind_some, find_lt]
    have h2 := byte_eq (p := fun b => !(([97, 98, 99, 100, 101, 102, 103, 104, 105, 106, 107, 108, 109, 110, 111, 112, 113, 114, 115, 116, 117, 118, 119, 120, 121, 122, 48, 49, 50, 51, 52, 53, 54, 55, 56, 57, 45, 46] : Bytes).contains b)) (q := badH) (by kernel_rfl) x
    rw [← h2, wrap_inc hlt (big1 hs)]
    cases (!(([97, 98, 99, 100, 101, 102, 103, 104, 105, 106, 107, 108, 109, 110, 111, 112, 113, 114, 115, 116, 117, 118, 119, 120, 121, 122, 48, 49, 50, 51, 52, 53, 54, 55, 56, 57, 45, 46] : Bytes).contains x)) <;> rfl
  · unfold intarsiaref05_host_b1
    rw [dlt_self, cond_false, cand]
    have e1 : decide ((s.length : Int) > (0 : Int)) = decide (1 ≤ s.length) := by rw [Bool.eq_iff_iff]; simp; omega
    have e2 : decide ((s.length : Int) ≤ (100 : Int)) = decide (s.length ≤ 100) := by rw [Bool.eq_iff_iff]; simp; omega
    rw [e1, e2]
theorem begins_eq (s p : Bytes) : intarsiaref05_begins s p = some (hasPre s p) := by
  have := HasPrefix_eq s p
  unfold strings_HasPrefix stringslite_HasPrefix at this
  unfold intarsiaref05_begins
  cases h : ((gslc (decide ((s.length : Int) ≥ (p.length : Int))) s 0 (p.length : Int)).bind fun x1 => some (bif (decide ((s.length : Int) ≥ (p.length : Int))) then (x1 == p) else false)) with
  | none => rw [h] at this; cases this
  | some x => rw [h] at this; exact this
theorem rwrite_abs {h p : Bytes} (hh : h.length ≤ 200000) (hp : p.length ≤ 200000) : intarsiaref05_Write (absU h p) = some (http ++ h ++ p) := by
  unfold intarsiaref05_Write absU
  rw [cond_true]
  show ((cat http h).bind fun x1 => bif ((0 : Int) != (0 : Int)) then _ else (cat x1 p).bind fun x8 => bif false then _ else some x8) = _
  rw [cat_ok (big1 (by simp [http]; omega)), Option.bind_some]
  show ((cat (http ++ h) p).bind fun x8 => some x8) = _
  rw [cat_ok (big1 (by simp [http]; omega))]; rfl
theorem uref_eq {h p : Bytes} (hh : h.length ≤ 200000) (hp : p.length ≤ 200000) : intarsiaref05_Right (absU h p) = some (uB h p) := by
  unfold intarsiaref05_Right
  show ((gcall true (intarsiaref05_Bytes p)).bind fun x1 => (gcall (!(bif false then true else (!x1))) (intarsiaref05_Bytes [])).bind fun x2 => (gcall (!(bif (bif false then true else (!x1)) then true else (!x2))) (intarsiaref05_find p (((63 : UInt8).toNat : Nat) : Int))).bind fun x3 =>
    (gcall (!(bif (bif (bif (bif false then true else (!x1)) then true else (!x2)) then true else (decide (x3 ≥ (0 : Int)))) then true else (bif true then false else false))) (intarsiaref05_Write (absU h p))).bind fun x4 =>
    bif (bif (bif (bif (bif (bif false then true else (!x1)) then true else (!x2)) then true else (decide (x3 ≥ (0 : Int)))) then true else (bif true then false else false)) then true else (decide ((x4.length : Int) > (500 : Int)))) then some false
    else bif true then (intarsiaref05_host h).bind fun x5 => (gcall x5 (intarsiaref05_begins p ([47] : Bytes))).bind fun x6 => some (bif x5 then x6 else false) else _) = _
  have h2 : intarsiaref05_Bytes [] = some true := by rw [rbytes_eq (s := []) (by decide)]; rfl
  rw [gcall_tt rfl, rbytes_eq (by omega), Option.bind_some, gcall_val (fun _ => h2), Option.bind_some, gcall_val (fun _ => find_eq (by omega) 63), Option.bind_some, gcall_val (fun _ => rwrite_abs hh hp), Option.bind_some, rhostc_eq (by omega), Option.bind_some, gcall_val (fun _ => begins_eq p [47]), Option.bind_some]
  have hw : (http ++ h ++ p).length = 7 + h.length + p.length := by simp [http]; omega
  have e : decide ((((http ++ h ++ p).length : Nat) : Int) > (500 : Int)) = !(decide (7 + h.length + p.length ≤ 500)) := by
    rw [hw, Bool.eq_iff_iff]; simp; omega
  have hf := find_has p 63
  unfold uB
  cases hb : p.any badU with
  | true => rfl
  | false =>
    show (bif (bif (bif (bif false then true else decide (idxP (fun x => x == 63) p 0 ≥ (0 : Int))) then true else false) then true else decide (((bif (!(bif (bif false then true else decide (idxP (fun x => x == 63) p 0 ≥ (0 : Int))) then true else false)) then http ++ h ++ p else default : Bytes).length : Int) > (500 : Int))) then some false else _) = _
    rw [hf]
    cases hc : p.contains 63 with
    | true => rfl
    | false =>
      show (bif (bif false then true else decide ((((http ++ h ++ p).length : Nat) : Int) > (500 : Int))) then some false else _) = _
      rw [e]
      cases decide (7 + h.length + p.length ≤ 500) with
      | false => rfl
      | true =>
        show some (bif hostB h then (bif hostB h then hasPre p [47] else default) else false) = _
        cases hostB h <;> rfl
theorem rhost21_eq {s : Bytes} (hs : s.length ≤ 100000) : intarsiaref21_host s = some (uB s [47]) := by
  unfold intarsiaref21_host
  show ((intarsiaref05_Right (absU s [47])).bind fun x1 => some x1) = _
  rw [uref_eq (by omega) (by decide)]; rfl

/-! ### Rows of routes -/
def sameK (r x : S_Route) : Bool := x.Host == r.Host && x.Prefix == r.Prefix
def distF : List S_Route → List S_Route → Bool
  | _, [] => true
  | seen, r :: rest => !(seen.any (sameK r)) && distF (seen ++ [r]) rest
theorem mhas_app {κ ν : Type} [BEq κ] (k k' : κ) (v : ν) : ∀ (m : List (κ × ν)), mhas (m ++ [(k', v)]) k = (mhas m k || (k == k'))
  | [] => by simp only [List.nil_append, mhas, Bool.false_or]; cases (k == k') <;> rfl
  | p :: m => by
    rw [List.cons_append, mhas, mhas, mhas_app k k' v m]
    cases (k == p.1) <;> rfl
theorem mins_new {κ ν : Type} [BEq κ] (k : κ) (v : ν) : ∀ (m : List (κ × ν)), mhas m k = false → mins m k v = m ++ [(k, v)]
  | [], _ => rfl
  | p :: m, h => by
    unfold mhas at h
    unfold mins
    cases hk : (k == p.1) with
    | true => rw [hk] at h; cases h
    | false => rw [hk] at h; rw [cond_false, mins_new k v m h]; rfl
theorem mins_old {κ ν : Type} [BEq κ] (k : κ) (v : ν) : ∀ (m : List (κ × ν)), mhas m k = true → (mins m k v).length = m.length
  | [], h => by cases h
  | p :: m, h => by
    unfold mhas at h
    unfold mins
    cases hk : (k == p.1) with
    | true => rfl
    | false => rw [hk] at h; rw [cond_false, List.length_cons, mins_old k v m h]; rfl
theorem key_same (r x : S_Route) : (keyOf r == keyOf x) = sameK r x := by
  show (r.Host == x.Host && (r.Prefix == x.Prefix && true)) = _
  unfold sameK
  rw [Bool.and_true, BEq.comm (a := r.Host), BEq.comm (a := r.Prefix)]
theorem kdist : ∀ (rest seen : List S_Route) (m : List (S_route_key × Bool)), (∀ r, mhas m (keyOf r) = seen.any (sameK r)) → ((kmap rest m).length == m.length + rest.length) = distF seen rest
  | [], seen, m, _ => by simp [kmap, distF]
  | r :: rest, seen, m, h => by
    unfold kmap distF
    cases hk : mhas m (keyOf r) with
    | true =>
      have h1 := mins_old (keyOf r) true m hk
      have h2 := kmap_le rest (mins m (keyOf r) true)
      rw [← h r, hk]
      show _ = false
      rw [beq_eq_false_iff_ne, List.length_cons]; omega
    | false =>
      have h1 := mins_new (keyOf r) true m hk
      rw [← h r, hk, Bool.not_false, Bool.true_and, h1]
      have := kdist rest (seen ++ [r]) (m ++ [(keyOf r, true)]) (fun x => by
        rw [mhas_app, h x, List.any_append, key_same]; simp)
      rw [← this, List.length_append, List.length_cons]
      refine congrArg ((kmap rest (m ++ [(keyOf r, true)])).length == ·) ?_
      simp; omega
theorem r21_in {l : List S_Route} (hl : l.length ≤ 1000000) {i : Nat} {r : S_Route} (hi : i < l.length) : loopO (intarsiaref21_Right_b2 l (i : Int) r) (0 : Int) = some (bif (l.take i).any (sameK r) then .inr false else .inl ((i + 1 : Nat) : Int)) := by
  have hti : (l.take i).length = i := by simp; omega
  refine any_loopA (l := l.take i) (sameK r) _ _ (fun k x hx => ?_) ?_
  · have hk := lt_of_get hx
    rw [hti] at hk
    have hx' : l[k]? = some x := by rw [List.getElem?_take_of_lt hk] at hx; exact hx
    unfold intarsiaref21_Right_b2
    rw [dlt_true hk, cond_true, idx_at hx', Option.bind_some, wrap_inc hk (big1 (by omega))]
    have : gidx (x.Host == r.Host) l (k : Int) = some (bif (x.Host == r.Host) then x else default) := by
      cases (x.Host == r.Host) with
      | true => exact (gidx_tt rfl).trans (idx_at hx')
      | false => rfl
    rw [this, Option.bind_some]
    unfold sameK
    cases (x.Host == r.Host) with
    | false => rfl
    | true => cases hq : (x.Prefix == r.Prefix) <;> simp [hq]
  · unfold intarsiaref21_Right_b2
    rw [hti, dlt_self, cond_false, wrap_inc hi (big1 hl)]
theorem r21_step {l : List S_Route} (hl : l.length ≤ 1000000) {i : Nat} {r : S_Route} (hx : l[i]? = some r) (h : RSm r) : intarsiaref21_Right_b1 l (i : Int) = some (bif rB r && !((l.take i).any (sameK r)) then .inl ((i + 1 : Nat) : Int) else .inr false) := by
  have hlt := lt_of_get hx
  have h1 := h.host
  have h2 := h.pre
  have h3 := h.origin
  have hpre : intarsiaref05_Right (S_Uri.mk true ([104] : Bytes) (0 : Int) (r.Prefix) false ([] : Bytes)) = some (uB [104] r.Prefix) := uref_eq (h := [104]) (by decide) (by omega)
  unfold intarsiaref21_Right_b1
  rw [dlt_true hlt, cond_true, idx_at hx, Option.bind_some, gcall_val (fun _ => rhost21_eq h1), Option.bind_some, gcall_val (fun _ => rhost21_eq h3), Option.bind_some, gcall_val (fun _ => hpre), Option.bind_some, r21_in hl hlt]
  have e : decide (((r.Prefix).length : Int) > (100 : Int)) = !(decide (r.Prefix.length ≤ 100)) := by rw [Bool.eq_iff_iff]; simp; omega
  rw [e]
  unfold rB
  cases (l.take i).any (sameK r) <;> cases (r.Host == ([] : Bytes)) <;> cases uB r.Host [47] <;> cases uB r.Origin [47] <;> cases decide (r.Prefix.length ≤ 100) <;> cases uB [104] r.Prefix <;> rfl
theorem R21_eq {l : List S_Route} (hl : l.length ≤ 1000000) (h : ∀ r, r ∈ l → RSm r) : intarsiaref21_Right l = some (routesB l) := by
  have key : ∀ (rest : List S_Route) (i : Nat), l.drop i = rest → i ≤ l.length → loopO (intarsiaref21_Right_b1 l) (i : Int) = some (rest.all rr && (decide (l.length ≤ 16) && distF (l.take i) rest)) := by
    intro rest
    induction rest with
    | nil =>
      intro i hd hi
      have hi' : i = l.length := by
        have := congrArg List.length hd
        rw [List.length_drop] at this
        simp at this; omega
      subst hi'
      have hb : intarsiaref21_Right_b1 l (l.length : Int) = some (.inr (decide (l.length ≤ 16))) := by
        unfold intarsiaref21_Right_b1
        rw [dlt_self, cond_false]
        have e1 : decide ((l.length : Int) ≤ (16 : Int)) = decide (l.length ≤ 16) := by rw [Bool.eq_iff_iff]; simp; omega
        rw [e1]
      rw [loopO_eq, hb]
      simp [distF]
    | cons r rest ih =>
      intro i hd hi
      have hx : l[i]? = some r := by
        have := congrArg (fun l => l[0]?) hd
        simpa using this
      have hlt := lt_of_get hx
      have hd' : l.drop (i + 1) = rest := by
        have := congrArg List.tail hd
        simpa using this
      have hr := h r (List.mem_of_getElem? hx)
      rw [loopO_eq, r21_step hl hx hr, List.all_cons, rr_rB hr, distF]
      cases rB r with
      | false => rfl
      | true =>
        cases (l.take i).any (sameK r) with
        | true => simp
        | false =>
          show loopO _ _ = _
          rw [ih (i + 1) hd' hlt, List.take_add_one, hx]
          simp
  have := key l 0 rfl (Nat.zero_le _)
  unfold intarsiaref21_Right
  rw [show (0 : Int) = ((0 : Nat) : Int) from rfl, this]
  unfold routesB
  have k := kdist l [] [] (fun r => rfl)
  simp only [List.length_nil, Nat.zero_add] at k
  rw [k]; rfl

/-! ### Which plans may be -/
theorem isDeed_eq (d : S_Deed) : intarsiaref25_IsDeed d = some (rightD d) := by
  unfold intarsiaref25_IsDeed
  have hr : rightD d = (script_right d).getD false := rfl
  unfold script_right at hr
  rw [Option.getD_some] at hr
  rw [hr]
  have a1 : decide (d.Kind < 1) = !(decide (d.Kind ≥ 1)) := by rw [Bool.eq_iff_iff]; simp
  have a2 : decide (d.Kind > 6) = !(decide (d.Kind ≤ 6)) := by rw [Bool.eq_iff_iff]; simp
  have a3 : decide (d.At < 0) = !(decide (d.At ≥ 0)) := by rw [Bool.eq_iff_iff]; simp
  have a4 : decide (d.At > 100000) = !(decide (d.At ≤ 100000)) := by rw [Bool.eq_iff_iff]; simp
  have a5 : decide ((d.Bytes.length : Int) > 3000) = !(decide ((d.Bytes.length : Int) ≤ 3000)) := by rw [Bool.eq_iff_iff]; simp
  rw [a1, a2, a3, a4, a5]
  unfold bne
  cases decide (d.Kind ≥ 1)
  · rfl
  cases decide (d.Kind ≤ 6)
  · rfl
  cases decide (d.At ≥ 0)
  · rfl
  cases decide (d.At ≤ 100000)
  · rfl
  cases decide ((d.Bytes.length : Int) ≤ 3000) <;> cases (d.Kind == 1) <;> cases (d.Kind == 2) <;> cases (d.Kind == 4) <;> cases (d.Kind == 5) <;> cases (d.At == 0) <;> cases (d.Bytes == ([] : Bytes)) <;> cases d.Clean <;> rfl
theorem rword_eq (b : UInt8) : intarsiaref03_word (b.toNat : Int) = some (wordB b) := by
  unfold intarsiaref03_word
  have hl : loopO (intarsiaref03_word_b1 (b.toNat : Int)) (0 : Int) = some (bif ([33, 35, 36, 37, 38, 39, 42, 43, 45, 46, 94, 95, 124, 126] : Bytes).any (fun x => x == b) then true else false) := by
    refine any_loopA (l := ([33, 35, 36, 37, 38, 39, 42, 43, 45, 46, 94, 95, 124, 126] : Bytes)) (fun x => x == b) true false (fun i x hx => ?_) ?_
    · have hlt := lt_of_get hx
      unfold intarsiaref03_word_b1
      rw [dlt_true hlt, cond_true, idx_at hx, Option.bind_some, nat_beq, wrap_inc hlt (by decide)]
      cases (x == b) <;> rfl
    · rfl
  rw [hl]
  have h2 := byte_eq (p := fun b => bif (bif (bif (bif (bif (decide ((b.toNat : Int) ≥ (97 : Int))) then (decide ((b.toNat : Int) ≤ (122 : Int))) else false) then true else (bif (decide ((b.toNat : Int) ≥ (65 : Int))) then (decide ((b.toNat : Int) ≤ (90 : Int))) else false)) then true else (bif (decide ((b.toNat : Int) ≥ (48 : Int))) then (decide ((b.toNat : Int) ≤ (57 : Int))) else false)) then true else ((b.toNat : Int) == (96 : Int))) then true else (([33, 35, 36, 37, 38, 39, 42, 43, 45, 46, 94, 95, 124, 126] : Bytes).any fun x => x == b)) (q := wordB) (by kernel_rfl) b
  rw [← h2]
  cases (bif (bif (bif (bif (decide ((b.toNat : Int) ≥ (97 : Int))) then (decide ((b.toNat : Int) ≤ (122 : Int))) else false) then true else (bif (decide ((b.toNat : Int) ≥ (65 : Int))) then (decide ((b.toNat : Int) ≤ (90 : Int))) else false)) then true else (bif (decide ((b.toNat : Int) ≥ (48 : Int))) then (decide ((b.toNat : Int) ≤ (57 : Int))) else false)) then true else ((b.toNat : Int) == (96 : Int))) with
  | true => rfl
  | false => cases (([33, 35, 36, 37, 38, 39, 42, 43, 45, 46, 94, 95, 124, 126] : Bytes).any fun x => x == b) <;> rfl
theorem rToken_eq {s : Bytes} (hs : s.length ≤ 1000000) : intarsiaref03_Token s = some (tokenB s) := by
  unfold intarsiaref03_Token
  refine (any_loopA (l := s) (fun b => !(wordB b)) false (!(s == ([] : Bytes))) (fun i x hx => ?_) ?_).trans ?_
  rotate_right 1
  · unfold tokenB
    have : (s.any fun b => !(wordB b)) = !(s.all wordB) := by rw [List.not_all_eq_any_not]
    rw [this]
    cases s.all wordB <;> cases (s == ([] : Bytes)) <;> rfl
  · have hlt := lt_of_get hx
    unfold intarsiaref03_Token_b1
    rw [dlt_true hlt, cond_true, idx_at hx, Option.bind_some, rword_eq, Option.bind_some, wrap_inc hlt (big1 hs)]
    cases wordB x <;> rfl
  · unfold intarsiaref03_Token_b1
    rw [dlt_self]; rfl
theorem rdevice_eq {s : Bytes} (hs : s.length ≤ 1000000) : intarsiaref25_device s = some (tokenB s && decide (s.length ≤ 40)) := by
  unfold intarsiaref25_device
  rw [rToken_eq hs, Option.bind_some, cand]
  have e1 : decide ((s.length : Int) ≤ (40 : Int)) = decide (s.length ≤ 40) := by rw [Bool.eq_iff_iff]; simp; omega
  rw [e1]
theorem R25_eq {p : S_Plan} (h : PSm p) : intarsiaref25_Right p = some (planB p) := by
  have h1 := h.dev
  have h2 := h.nr
  have h3 := h.nd
  unfold intarsiaref25_Right
  have hin : loopO (intarsiaref25_Right_b2 p) (0 : Int) = some (bif p.Routes.any (fun r => r.Host == ([45] : Bytes)) then (.inr false : Int ⊕ Bool) else .inr ((tokenB p.Device && decide (p.Device.length ≤ 40)) && (routesB p.Routes && decide (p.Deeds.length ≤ 200)))) := by
    refine any_loopA (l := p.Routes) (fun r => r.Host == ([45] : Bytes)) _ _ (fun i r hx => ?_) ?_
    · have hlt := lt_of_get hx
      unfold intarsiaref25_Right_b2
      rw [dlt_true hlt, cond_true, idx_at hx, Option.bind_some, wrap_inc hlt (big1 (by omega))]
      cases (r.Host == ([45] : Bytes)) <;> rfl
    · unfold intarsiaref25_Right_b2
      rw [dlt_self, cond_false, rdevice_eq (by omega), Option.bind_some, gcall_val (fun _ => R21_eq (by omega) h.routes), Option.bind_some]
      have e1 : decide (((p.Deeds).length : Int) ≤ (200 : Int)) = decide (p.Deeds.length ≤ 200) := by rw [Bool.eq_iff_iff]; simp; omega
      rw [e1]
      cases (tokenB p.Device && decide (p.Device.length ≤ 40)) <;> cases routesB p.Routes <;> rfl
  refine (any_loopA (l := p.Deeds) (fun d => !(rightD d)) false (!(p.Routes.any (fun r => r.Host == ([45] : Bytes))) && ((tokenB p.Device && decide (p.Device.length ≤ 40)) && (routesB p.Routes && decide (p.Deeds.length ≤ 200)))) (fun i d hx => ?_) ?_).trans ?_
  rotate_right 1
  · unfold planB
    rw [show (p.Deeds.any fun d => !(rightD d)) = !(p.Deeds.all rightD) by rw [List.not_all_eq_any_not], show (p.Routes.any fun r => r.Host == ([45] : Bytes)) = !(p.Routes.all fun r => !(r.Host == ([45] : Bytes))) by rw [List.not_all_eq_any_not]; simp]
    cases p.Deeds.all rightD <;> cases (p.Routes.all fun r => !(r.Host == ([45] : Bytes))) <;> cases (tokenB p.Device && decide (p.Device.length ≤ 40)) <;> cases routesB p.Routes <;> cases decide (p.Deeds.length ≤ 200) <;> rfl
  · have hlt := lt_of_get hx
    unfold intarsiaref25_Right_b1
    rw [dlt_true hlt, cond_true, idx_at hx, Option.bind_some, isDeed_eq, Option.bind_some, wrap_inc hlt (big1 (by omega))]
    cases rightD d <;> rfl
  · unfold intarsiaref25_Right_b1
    rw [dlt_self, cond_false, hin]
    cases p.Routes.any (fun r => r.Host == ([45] : Bytes)) <;> rfl

/-! ### The lines of a plan -/
theorem rhi_idx (b : UInt8) : idx hexs (IntKind.u8.wrap ((b.toNat : Int).tdiv (16 : Int))) = some (hexit (b.toNat / 16)) :=
  of_decide_eq_true (byte_all (p := fun b => decide (idx hexs (IntKind.u8.wrap ((b.toNat : Int).tdiv (16 : Int))) = some (hexit (b.toNat / 16)))) (by kernel_rfl) b)
theorem rlo_idx (b : UInt8) : idx hexs ((b.toNat : Int).tmod (16 : Int)) = some (hexit (b.toNat % 16)) :=
  of_decide_eq_true (byte_all (p := fun b => decide (idx hexs ((b.toNat : Int).tmod (16 : Int)) = some (hexit (b.toNat % 16)))) (by kernel_rfl) b)
theorem rlo_wrap (b : UInt8) : (((16 : Int) == 0) = false ∧ IntKind.u8.wrap ((b.toNat : Int).tmod (16 : Int)) = (b.toNat : Int).tmod (16 : Int)) :=
  of_decide_eq_true (byte_all (p := fun b => decide (((16 : Int) == 0) = false ∧ IntKind.u8.wrap ((b.toNat : Int).tmod (16 : Int)) = (b.toNat : Int).tmod (16 : Int))) (by kernel_rfl) b)
theorem rwordW_eq {s : Bytes} (hs : s.length ≤ 100000) : intarsiaref25_word s = some (32 :: wrd (hexW s)) := by
  unfold intarsiaref25_word wrd
  cases he : (s == ([] : Bytes)) with
  | true => rw [eq_of_beq he]; rfl
  | false =>
    have hne : (hexW s == ([] : Bytes)) = false := by
      cases hc : (hexW s == ([] : Bytes)) with
      | false => rfl
      | true =>
        have := congrArg List.length (eq_of_beq hc)
        rw [hexW_len] at this
        have h0 : s = [] := List.eq_nil_of_length_eq_zero (by simp at this; omega)
        rw [h0] at he; cases he
    rw [hne, cond_false, cond_false]
    have key : ∀ (rest : Bytes) (i : Nat), s.drop i = rest → i ≤ s.length → loopO (intarsiaref25_word_b1 s) (32 :: hexW (s.take i), (i : Int)) = some (32 :: hexW s) := by
      intro rest
      induction rest with
      | nil =>
        intro i hd hi
        have hi' : i = s.length := by
          have := congrArg List.length hd
          rw [List.length_drop] at this
          simp at this; omega
        subst hi'
        rw [loopO_eq, List.take_length]
        unfold intarsiaref25_word_b1
        dsimp only
        rw [dlt_self]; rfl
      | cons b rest ih =>
        intro i hd hi
        have hx : s[i]? = some b := by
          have := congrArg (fun l => l[0]?) hd
          simpa using this
        have hlt := lt_of_get hx
        have hd' : s.drop (i + 1) = rest := by
          have := congrArg List.tail hd
          simpa using this
        have hti : (s.take i).length ≤ s.length := by simp; omega
        have hb : intarsiaref25_word_b1 s (32 :: hexW (s.take i), (i : Int)) = some (.inl (32 :: hexW (s.take (i + 1)), ((i + 1 : Nat) : Int))) := by
          unfold intarsiaref25_word_b1
          dsimp only
          rw [dlt_true hlt, cond_true, idx_at hx, Option.bind_some, chk_pos (by decide), show ([48, 49, 50, 51, 52, 53, 54, 55, 56, 57, 97, 98, 99, 100, 101, 102] : Bytes) = hexs from rfl, rhi_idx, Option.bind_some, Option.bind_some, chk_pos (rlo_wrap b), rlo_idx, Option.bind_some, u8_nat, u8_nat,
            app_ok (by rw [List.length_cons, hexW_len]; simp; omega) (by omega), Option.bind_some, wrap_inc hlt (big1 (by omega)), List.take_add_one, hx]
          have : hexW (s.take i ++ (some b).toList) = hexW (s.take i) ++ hex2 b := by unfold hexW; rw [List.flatMap_append]; simp
          rw [this]; rfl
        rw [loopO_eq, hb]
        exact ih (i + 1) hd' hlt
    have := key s 0 rfl (Nat.zero_le _)
    show ((loopO (intarsiaref25_word_b1 s) (32 :: hexW (s.take 0), ((0 : Nat) : Int)) : Option (List UInt8)).bind fun j1 => some j1) = _
    rw [this]; rfl
theorem rLine_eq {d : S_Deed} (h : DOk d) : intarsiaref25_Line d = some (lineB d) := by
  obtain ⟨⟨k1, k2⟩, ha, h3, hb, h5, h6⟩ := h
  obtain ⟨k, n, bs, c⟩ := d
  simp only at k1 k2 ha h3 hb h5 h6
  have hdl := dg_le ha
  have hi : strconv_Itoa n = some (dg n) := by
    unfold strconv_Itoa dg
    rw [chk_pos (by omega)]
    have := Lib.itoa_nonneg n.toNat
    rw [show ((n.toNat : Nat) : Int) = n by omega] at this
    rw [this]
  have hw := rwordW_eq (s := bs) (by omega)
  have hwl := wrd_le (hexW bs)
  rw [hexW_len] at hwl
  have hk : k = 1 ∨ k = 2 ∨ k = 3 ∨ k = 4 ∨ k = 5 ∨ k = 6 := by omega
  unfold intarsiaref25_Line
  rw [hi, Option.bind_some, cat_ok (big1 (by simp; omega)), Option.bind_some]
  rcases hk with rfl | rfl | rfl | rfl | rfl | rfl
  · show ((intarsiaref25_word bs).bind fun x3 => _) = _
    rw [hw, Option.bind_some, cat_ok (big1 (by simp; omega)), Option.bind_some]
    unfold lineB lineW
    simp [Lib.join, List.intercalate, wIn]
  · show ((cat ([119, 114, 105, 116, 101] : Bytes) ([32] ++ dg n)).bind fun x5 => _) = _
    rw [cat_ok (big1 (by simp; omega)), Option.bind_some]
    unfold lineB lineW
    simp [Lib.join, List.intercalate, wWrite]
  · rfl
  · show ((cat ([99, 97, 109, 101] : Bytes) ([32] ++ dg n)).bind fun x6 => (intarsiaref25_word bs).bind fun x7 => _) = _
    rw [cat_ok (big1 (by simp; omega)), Option.bind_some, hw, Option.bind_some, cat_ok (big1 (by simp; omega)), Option.bind_some]
    unfold lineB lineW
    simp [Lib.join, List.intercalate, wCame]
  · cases c with
    | true =>
      show ((cat ([103, 111, 110, 101] : Bytes) ([32] ++ dg n)).bind fun x9 => (cat x9 ([32, 99, 108, 101, 97, 110] : Bytes)).bind fun x10 => _) = _
      rw [cat_ok (big1 (by simp; omega)), Option.bind_some, cat_ok (big1 (by simp; omega)), Option.bind_some]
      unfold lineB lineW
      simp [Lib.join, List.intercalate, wGone, clean]
    | false =>
      show ((cat ([103, 111, 110, 101] : Bytes) ([32] ++ dg n)).bind fun x9 => (cat x9 ([32, 116, 111, 114, 110] : Bytes)).bind fun x10 => _) = _
      rw [cat_ok (big1 (by simp; omega)), Option.bind_some, cat_ok (big1 (by simp; omega)), Option.bind_some]
      unfold lineB lineW
      simp [Lib.join, List.intercalate, wGone, torn]
  · rfl
theorem rWay_eq {r : S_Route} (h : RSm r) : intarsiaref25_Way r = some (wayB r) := by
  have h1 := h.host
  have h2 := h.pre
  have h3 := h.origin
  unfold intarsiaref25_Way wayB wrd
  cases (r.Host == ([] : Bytes)) with
  | true =>
    rw [cond_true, cat_ok (big1 (by simp; omega)), Option.bind_some, cat_ok (big1 (by simp; omega)), Option.bind_some, cat_ok (big1 (by simp; omega)), Option.bind_some]
    simp [Lib.join, List.intercalate, wRoute]
  | false =>
    rw [cond_false, cat_ok (big1 (by simp; omega)), Option.bind_some, cat_ok (big1 (by simp; omega)), Option.bind_some, cat_ok (big1 (by simp; omega)), Option.bind_some, cat_ok (big1 (by simp; omega)), Option.bind_some, cat_ok (big1 (by simp; omega)), Option.bind_some]
    simp [Lib.join, List.intercalate, wRoute]
theorem acc_loop {α : Type} {l : List α} {body : Bytes × Int → Option ((Bytes × Int) ⊕ Bytes)} (f : α → Bytes) (N : Nat)
    (hs : ∀ (i : Nat) (x : α) (acc : Bytes), l[i]? = some x → acc.length + (nl (f x)).length ≤ N → body (acc, (i : Int)) = some (.inl (acc ++ nl (f x), ((i + 1 : Nat) : Int)))) (hf : ∀ acc, body (acc, (l.length : Int)) = some (.inr acc))
    (acc : Bytes) (h : acc.length + (l.flatMap fun x => nl (f x)).length ≤ N) : loopO body (acc, (0 : Int)) = some (acc ++ l.flatMap fun x => nl (f x)) := by
  have key : ∀ (rest : List α) (i : Nat) (acc : Bytes), l.drop i = rest → i ≤ l.length → acc.length + (rest.flatMap fun x => nl (f x)).length ≤ N → loopO body (acc, (i : Int)) = some (acc ++ rest.flatMap fun x => nl (f x)) := by
    intro rest
    induction rest with
    | nil =>
      intro i acc hd hi _
      have hi' : i = l.length := by
        have := congrArg List.length hd
        rw [List.length_drop] at this
        simp at this; omega
      subst hi'
      rw [loopO_eq, hf]; simp
    | cons x rest ih =>
      intro i acc hd hi hn
      have hx : l[i]? = some x := by
        have := congrArg (fun l => l[0]?) hd
        simpa using this
      have hlt := lt_of_get hx
      have hd' : l.drop (i + 1) = rest := by
        have := congrArg List.tail hd
        simpa using this
      rw [List.flatMap_cons, List.length_append] at hn
      rw [loopO_eq, hs i x acc hx (by omega)]
      show loopO body _ = _
      rw [ih (i + 1) _ hd' hlt (by rw [List.length_append]; omega), List.flatMap_cons, List.append_assoc]
  exact key l 0 acc rfl (Nat.zero_le _) h
theorem rText_eq {p : S_Plan} (h : PGood p) : intarsiaref25_Text p = some (textB p) := by
  obtain ⟨f1, f2, f3, f4, f5⟩ := h.facts
  have hnr := (routesB_all f2).2
  have hl := text_len h
  unfold textB at hl
  rw [List.length_append, List.length_append] at hl
  have hd7 : (nl (wDev ++ p.Device)).length = p.Device.length + 8 := by unfold nl; rw [List.length_append, List.length_append]; show 7 + _ + 1 = _; omega
  unfold intarsiaref25_Text
  rw [show ([100, 101, 118, 105, 99, 101, 32] : Bytes) = wDev from rfl, cat_ok (big1 (by simp [wDev]; omega)), Option.bind_some, cat_ok (big1 (by simp [wDev]; omega)), Option.bind_some]
  show ((loopO (intarsiaref25_Text_b1 p) (nl (wDev ++ p.Device), (0 : Int)) : Option Bytes).bind fun j3 => _) = _
  rw [acc_loop (l := p.Routes) wayB 200000000 (fun i r acc hx hn => ?_) (fun acc => ?_) _ (by omega), Option.bind_some]
  · rw [acc_loop (l := p.Deeds) lineB 200000000 (fun i d acc hx hn => ?_) (fun acc => ?_) _ (by rw [List.length_append]; omega), Option.bind_some]
    · unfold textB
      rw [List.append_assoc]
    · have hlt := lt_of_get hx
      have hnn : (nl (lineB d)).length = (lineB d).length + 1 := by unfold nl; simp
      unfold intarsiaref25_Text_b2
      dsimp only
      rw [dlt_true hlt, cond_true, idx_at hx, Option.bind_some, rLine_eq (rightD_ok (f5 d (List.mem_of_getElem? hx))), Option.bind_some, cat_ok (by unfold maxLen; omega), Option.bind_some, cat_ok (show (acc ++ lineB d).length + 1 ≤ maxLen by rw [List.length_append]; unfold maxLen; omega), Option.bind_some, wrap_inc hlt (big1 (by omega)), List.append_assoc]
      rfl
    · unfold intarsiaref25_Text_b2
      dsimp only
      rw [dlt_self]; rfl
  · have hlt := lt_of_get hx
    have hnn : (nl (wayB r)).length = (wayB r).length + 1 := by unfold nl; simp
    unfold intarsiaref25_Text_b1
    dsimp only
    rw [dlt_true hlt, cond_true, idx_at hx, Option.bind_some, rWay_eq (h.small.routes r (List.mem_of_getElem? hx)), Option.bind_some, cat_ok (by unfold maxLen; omega), Option.bind_some, cat_ok (show (acc ++ wayB r).length + 1 ≤ maxLen by rw [List.length_append]; unfold maxLen; omega), Option.bind_some, wrap_inc hlt (big1 (by omega)), List.append_assoc]
    rfl
  · unfold intarsiaref25_Text_b1
    dsimp only
    rw [dlt_self]; rfl
theorem ScriptPrints_true (p : S_Plan) : intarsialaw25_ScriptPrints p = some true := by
  unfold intarsialaw25_ScriptPrints
  obtain ⟨q, hq, hf⟩ := few_tot p
  have hs := hf.small
  rw [hq, Option.bind_some, SPrint_eq hs, Option.bind_some, R25_eq hs, Option.bind_some]
  cases hb : planB q with
  | false =>
    show ((intarsialaw25_alive).bind fun x4 => _) = _
    rw [alive_eq, Option.bind_some, gcall_tt rfl, SRight_eq hs, hb]; rfl
  | true =>
    show ((intarsialaw25_alive).bind fun x4 => _) = _
    rw [alive_eq, Option.bind_some, gcall_tt rfl, SRight_eq hs, hb, Option.bind_some]
    show ((gcall true (intarsiaref25_Text q)).bind fun x8 => _) = _
    rw [gcall_tt rfl, rText_eq ⟨hs, hb⟩, Option.bind_some]
    simp
end Go.Proofs.YtkfoahoplndelaaGreatDoor
