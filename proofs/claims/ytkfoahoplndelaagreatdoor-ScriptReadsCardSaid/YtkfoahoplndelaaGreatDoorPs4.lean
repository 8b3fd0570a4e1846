/-
  Plain laws of the plays, 4: texts parsed line by line. ScriptBack holds.
-/
import Derived.Test.YtkfoahoplndelaaGreatDoorPs3
namespace Go.Proofs.YtkfoahoplndelaaGreatDoor
open Go Go.Pm
set_option linter.unusedVariables false
set_option maxRecDepth 100000

def zeroP : S_Plan := S_Plan.mk [] [] []
/-- A round of the parser, its line known. -/
theorem round_first {text behind x7 : Bytes} {is : Bool} {s1 : Bytes} {p : S_Plan} (hs : s1.length ≤ 1000000000) (hc : cutC 10 s1 = (text, behind, is)) (ht : text.length ≤ 100000) (h7 : x7 = bif hasPre text wDev then text.drop 7 else text) :
    script_Parse_b1 (s1, (1 : Int), p) = some (bif (is && (tokenB x7 && decide (x7.length ≤ 40))) && (wDev ++ x7 == text) then .inl (behind, (2 : Int), S_Plan.mk x7 p.Routes p.Deeds) else .inr (zeroP, (250 : Int), (1 : Int))) := by
  have hlen : x7.length ≤ 100000 := by
    rw [h7]
    cases hasPre text wDev with
    | true => simp; omega
    | false => exact ht
  unfold script_Parse_b1
  dsimp only
  obtain ⟨d, hd, _⟩ := deed_tot (s := text) (by omega)
  have htrim : strings_TrimPrefix text wDev = some x7 := by
    unfold strings_TrimPrefix stringslite_TrimPrefix
    have hp : stringslite_HasPrefix text wDev = some (hasPre text wDev) := by
      have := HasPrefix_eq text wDev
      unfold strings_HasPrefix at this
      cases hh : stringslite_HasPrefix text wDev with
      | none => rw [hh] at this; cases this
      | some x => rw [hh] at this; exact this
    rw [hp, Option.bind_some]
    cases hh : hasPre text wDev with
    | false => rw [h7, hh]; rfl
    | true =>
      have hle : 7 ≤ text.length := (List.isPrefixOf_iff_prefix.1 hh).length_le
      have : slc text (((wDev.length : Nat)) : Int) (text.length : Int) = some (text.drop 7) := by
        unfold slc
        have e : wDev.length = 7 := rfl
        rw [e, chk_pos (by omega)]
        show some ((text.drop 7).take (text.length - 7)) = _
        rw [List.take_of_length_le (by simp)]
      rw [cond_true, this, h7, hh]; rfl
  rw [show (((1 : Int)) == (1 : Int)) = true from rfl, cond_true, cond_true, Cut_one 10 (by unfold maxLen; omega), Option.bind_some, hc]
  show ((script_parse text).bind fun x5 => (script_deed text).bind fun x6 => bif true then (strings_TrimPrefix text wDev).bind fun x7 => (gcall is (script_device x7)).bind fun x8 => (gcat (bif is then x8 else false) wDev x7).bind fun x9 => _ else _) = _
  rw [parse_eq (by omega) (routeW_small ht), Option.bind_some, hd, Option.bind_some, cond_true, htrim, Option.bind_some, gcall_val (fun _ => device_eq (big1 (by omega))), Option.bind_some]
  have hg : ∀ g : Bool, gcat g wDev x7 = some (wDev ++ x7) := fun g => by
    unfold gcat
    rw [chk_pos (fun _ => big1 (by simp [wDev]; omega))]
  rw [hg, Option.bind_some]
  cases is <;> cases (tokenB x7 && decide (x7.length ≤ 40)) <;> cases (wDev ++ x7 == text) <;> rfl
theorem app_small {α : Type} {e : Nat} {s t : List α} (h : s.length + t.length ≤ 1000000) (he : e ≤ 1000) : app e s t = some (s ++ t) := app_ok h he
/-- The other lines. -/
def stepB (text behind : Bytes) (is : Bool) (r : S_Route) (isr : Bool) (d : S_Deed) (no : Int) (p : S_Plan) (rok dok : Bool) : (Bytes × Int × S_Plan) ⊕ (S_Plan × Int × Int) :=
  bif isr && (p.Deeds.length == 0) then (bif is && rok then .inl (behind, no + 1, S_Plan.mk p.Device (p.Routes ++ [r]) p.Deeds) else .inr (zeroP, 250, no))
  else (bif is && dok then .inl (behind, no + 1, S_Plan.mk p.Device p.Routes (p.Deeds ++ [d])) else .inr (zeroP, 250, no))
theorem round_more {text behind : Bytes} {is isr : Bool} {s1 : Bytes} {p : S_Plan} {no : Int} {r : S_Route} {d : S_Deed} (hs : s1.length ≤ 1000000000) (hne : s1 ≠ []) (hno : 2 ≤ no ∧ no ≤ 1000000000000) (hc : cutC 10 s1 = (text, behind, is))
    (hr : script_parse text = some (r, isr)) (hd : script_deed text = some d) (hp : PSm p) (hrs : RSm r) :
    script_Parse_b1 (s1, no, p) = some (stepB text behind is r isr d no p (routesB (p.Routes ++ [r])) (decide (p.Deeds.length + 1 ≤ 200) && (rightD d && (lineB d == text)))) := by
  have h1 := hp.nr
  have h2 := hp.nd
  unfold script_Parse_b1
  dsimp only
  have e1 : (no == (1 : Int)) = false := by simp; omega
  have e2 : (s1 == ([] : Bytes)) = false := by simpa using hne
  rw [e1, e2, Cut_one 10 (by unfold maxLen; omega), Option.bind_some, hc]
  show ((script_parse text).bind fun x5 => (script_deed text).bind fun x6 => bif false then _ else (bif (bif x5.2 then (((p.Deeds).length : Int) == (0 : Int)) else false) then (app 48 (p.Routes) ([(x5.1)] : List S_Route)).bind fun x10 => (gcall is (route_Right x10)).bind fun x11 => _ else
    (app 40 (p.Deeds) ([x6] : List S_Deed)).bind fun x12 => (gcall (bif is then (decide ((x12.length : Int) ≤ (200 : Int))) else false) (script_right x6)).bind fun x13 => (gcall (bif (bif is then (decide ((x12.length : Int) ≤ (200 : Int))) else false) then x13 else false) (script_line x6)).bind fun x14 => _)) = _
  rw [hr, Option.bind_some, hd, Option.bind_some, cond_false, cand]
  have e3 : (((p.Deeds).length : Int) == (0 : Int)) = (p.Deeds.length == 0) := by rw [Bool.eq_iff_iff]; simp
  rw [e3]
  have hw : IntKind.i64.wrap (no + (1 : Int)) = no + 1 := wrap_i64 (by omega) (by omega)
  unfold stepB
  cases hb : (isr && (p.Deeds.length == 0)) with
  | true =>
    rw [cond_true, app_small (by simp; omega) (by omega), Option.bind_some]
    have hrt : route_Right (p.Routes ++ [r]) = some (routesB (p.Routes ++ [r])) := RRight_eq (by simp; omega) (fun x hx => by
      rcases List.mem_append.1 hx with hx | hx
      · exact hp.routes x hx
      · simp at hx; subst hx; exact hrs)
    rw [gcall_val (fun _ => hrt), Option.bind_some, hw]
    cases is <;> cases routesB (p.Routes ++ [r]) <;> rfl
  | false =>
    rw [cond_false, app_small (by simp; omega) (by omega), Option.bind_some]
    have e4 : decide (((p.Deeds ++ [d]).length : Int) ≤ (200 : Int)) = decide (p.Deeds.length + 1 ≤ 200) := by simp; omega
    rw [e4, gcall_val (fun _ => right_eq d), Option.bind_some, hw]
    cases is with
    | false => rfl
    | true =>
      cases decide (p.Deeds.length + 1 ≤ 200) with
      | false => rfl
      | true =>
        cases hrd : rightD d with
        | false => rfl
        | true =>
          simp only [cond_true]
          rw [gcall_tt rfl, line_eq (rightD_ok hrd), Option.bind_some]
          cases (lineB d == text) <;> rfl

/-! ### Any text -/
def PInv (S : Bytes) (x : Bytes × Int × S_Plan) : Prop :=
  (x.1 = S ∧ x.2.1 = 1 ∧ x.2.2 = zeroP) ∨ (2 ≤ x.2.1 ∧ x.2.1 + x.1.length ≤ S.length + 2 ∧ PGood x.2.2 ∧ S = textB x.2.2 ++ x.1)
def PRes (S : Bytes) (r : S_Plan × Int × Int) : Prop := (r.2.1 = 0 ∧ PGood r.1 ∧ S = textB r.1) ∨ (r.2.1 = 250 ∧ r.1 = zeroP)
theorem text_dev (x : Bytes) : textB (S_Plan.mk x [] []) = nl (wDev ++ x) := by unfold textB; simp
theorem text_route (p : S_Plan) (r : S_Route) (h : p.Deeds = []) : textB (S_Plan.mk p.Device (p.Routes ++ [r]) p.Deeds) = textB p ++ nl (wayB r) := by
  unfold textB
  simp [h, List.flatMap_append]
theorem text_deed (p : S_Plan) (d : S_Deed) : textB (S_Plan.mk p.Device p.Routes (p.Deeds ++ [d])) = textB p ++ nl (lineB d) := by
  unfold textB
  simp [List.flatMap_append]
theorem good_of {p : S_Plan} (h1 : tokenB p.Device = true ∧ p.Device.length ≤ 40) (h2 : routesB p.Routes = true) (h3 : ∀ r, r ∈ p.Routes → r.Host ≠ [45] ∧ RSm r) (h4 : p.Deeds.length ≤ 200) (h5 : ∀ d, d ∈ p.Deeds → rightD d = true) : PGood p := by
  have := (routesB_all h2).2
  refine ⟨⟨by omega, by omega, fun r hr => (h3 r hr).2, by omega⟩, ?_⟩
  unfold planB
  simp only [Bool.and_eq_true, decide_eq_true_eq, List.all_eq_true, Bool.not_eq_true', beq_eq_false_iff_ne]
  exact ⟨h1, h2, fun r hr => (h3 r hr).1, h4, h5⟩
theorem Parse_step {S : Bytes} (hS : S.length ≤ 10000) (x : Bytes × Int × S_Plan) (hx : PInv S x) : (∃ y, script_Parse_b1 x = some (.inl y) ∧ PInv S y ∧ (bif y.2.1 == 1 then S.length + 2 else y.1.length) < (bif x.2.1 == 1 then S.length + 2 else x.1.length)) ∨ ∃ r, script_Parse_b1 x = some (.inr r) ∧ PRes S r := by
  obtain ⟨s1, no, p⟩ := x
  rcases hx with ⟨h1, h2, h3⟩ | ⟨h1, h2, h3, h4⟩
  · simp only at h1 h2 h3
    subst h1 h2 h3
    obtain ⟨text, behind, is⟩ : Bytes × Bytes × Bool := cutC 10 s1
    have hle := cutC_le 10 s1
    have hb := round_first (s1 := s1) (p := zeroP) (text := (cutC 10 s1).1) (behind := (cutC 10 s1).2.1) (is := (cutC 10 s1).2.2) (by omega) rfl (by omega) rfl
    cases hk : (((cutC 10 s1).2.2 && (tokenB (bif hasPre (cutC 10 s1).1 wDev then (cutC 10 s1).1.drop 7 else (cutC 10 s1).1) && decide ((bif hasPre (cutC 10 s1).1 wDev then (cutC 10 s1).1.drop 7 else (cutC 10 s1).1).length ≤ 40))) &&
        (wDev ++ (bif hasPre (cutC 10 s1).1 wDev then (cutC 10 s1).1.drop 7 else (cutC 10 s1).1) == (cutC 10 s1).1)) with
    | false => rw [hk] at hb; exact .inr ⟨_, hb, .inr ⟨rfl, rfl⟩⟩
    | true =>
      rw [hk] at hb
      refine .inl ⟨_, hb, .inr ⟨by simp, ?_, ?_, ?_⟩, ?_⟩
      · show (2 : Int) + ((cutC 10 s1).2.1.length : Int) ≤ _; omega
      · simp only [Bool.and_eq_true, decide_eq_true_eq, beq_iff_eq] at hk
        exact good_of hk.1.2 routesB_nil (fun r hr => by cases hr) (Nat.zero_le _) (fun d hd => by cases hd)
      · simp only [Bool.and_eq_true, decide_eq_true_eq, beq_iff_eq] at hk
        have := cutC_back 10 s1 hk.1.1
        show s1 = textB (S_Plan.mk _ [] []) ++ _
        rw [text_dev, hk.2]
        unfold nl
        rw [List.append_assoc]; exact this
      · show ((cutC 10 s1).2.1).length < s1.length + 2
        omega
  · simp only at h1 h2 h3 h4
    have hle0 : s1.length ≤ S.length := by rw [h4]; simp
    by_cases hne : s1 = []
    · subst hne
      refine .inr ⟨(p, 0, 0), ?_, .inl ⟨rfl, h3, by rw [h4]; simp⟩⟩
      unfold script_Parse_b1
      dsimp only
      have e1 : (no == (1 : Int)) = false := by simp; omega
      rw [e1]; rfl
    · have hle := cutC_le 10 s1
      have hrs := routeW_small (s := (cutC 10 s1).1) (by omega)
      have hr := parse_eq (s := (cutC 10 s1).1) (by omega) hrs
      obtain ⟨d, hd, _⟩ := deed_tot (s := (cutC 10 s1).1) (by omega)
      have hb := round_more (s1 := s1) (p := p) (no := no) (text := (cutC 10 s1).1) (behind := (cutC 10 s1).2.1) (is := (cutC 10 s1).2.2) (by omega) hne (by omega) rfl hr hd h3.small hrs
      obtain ⟨f1, f2, f3, f4, f5⟩ := h3.facts
      have hshrink : (cutC 10 s1).2.2 = true → (cutC 10 s1).2.1.length < s1.length := fun h => by
        have := congrArg List.length (cutC_back 10 s1 h)
        simp at this; omega
      unfold stepB at hb
      cases hi : (cutC 10 s1).2.2 with
      | false =>
        rw [hi] at hb
        refine .inr ⟨(zeroP, 250, no), ?_, .inr ⟨rfl, rfl⟩⟩
        rw [hb]
        cases ((wayB (routeW (Lib.split (cutC 10 s1).1 [32])) == (cutC 10 s1).1) && (p.Deeds.length == 0)) <;> rfl
      | true =>
        have hback := cutC_back 10 s1 hi
        have hsh := hshrink hi
        rw [hi] at hb
        cases hroute : ((wayB (routeW (Lib.split (cutC 10 s1).1 [32])) == (cutC 10 s1).1) && (p.Deeds.length == 0)) with
        | true =>
          rw [hroute] at hb
          rw [Bool.and_eq_true, beq_iff_eq, beq_iff_eq] at hroute
          have hdz : p.Deeds = [] := List.eq_nil_of_length_eq_zero hroute.2
          cases hok : routesB (p.Routes ++ [routeW (Lib.split (cutC 10 s1).1 [32])]) with
          | false => rw [hok] at hb; exact .inr ⟨_, hb, .inr ⟨rfl, rfl⟩⟩
          | true =>
            rw [hok] at hb
            refine .inl ⟨_, hb, .inr ⟨by show (2 : Int) ≤ no + 1; omega, by show no + 1 + (((cutC 10 s1).2.1).length : Int) ≤ _; omega, ?_, ?_⟩, ?_⟩
            · refine good_of f1 hok (fun r hr => ?_) f4 f5
              rcases List.mem_append.1 hr with hr | hr
              · exact ⟨f3 r hr, h3.small.routes r hr⟩
              · simp at hr; subst hr; exact ⟨routeW_host _, hrs⟩
            · show S = textB (S_Plan.mk _ _ _) ++ _
              rw [text_route p _ hdz, hroute.1, h4]
              unfold nl
              rw [List.append_assoc, List.append_assoc]
              exact congrArg (textB p ++ ·) hback
            · have e1 : (no + 1 == (1 : Int)) = false := by simp; omega
              have e2 : (no == (1 : Int)) = false := by simp; omega
              show (bif no + 1 == 1 then _ else ((cutC 10 s1).2.1).length) < (bif no == 1 then _ else s1.length)
              rw [e1, e2]; exact hsh
        | false =>
          rw [hroute] at hb
          cases hok : (decide (p.Deeds.length + 1 ≤ 200) && (rightD d && (lineB d == (cutC 10 s1).1))) with
          | false => rw [hok] at hb; exact .inr ⟨_, hb, .inr ⟨rfl, rfl⟩⟩
          | true =>
            rw [hok] at hb
            simp only [Bool.and_eq_true, decide_eq_true_eq, beq_iff_eq] at hok
            refine .inl ⟨_, hb, .inr ⟨by show (2 : Int) ≤ no + 1; omega, by show no + 1 + (((cutC 10 s1).2.1).length : Int) ≤ _; omega, ?_, ?_⟩, ?_⟩
            · refine good_of f1 f2 (fun r hr => ⟨f3 r hr, h3.small.routes r hr⟩) (by simp; omega) (fun x hx => ?_)
              rcases List.mem_append.1 hx with hx | hx
              · exact f5 x hx
              · simp at hx; subst hx; exact hok.2.1
            · show S = textB (S_Plan.mk _ _ _) ++ _
              rw [text_deed p _, hok.2.2, h4]
              unfold nl
              rw [List.append_assoc, List.append_assoc]
              exact congrArg (textB p ++ ·) hback
            · have e1 : (no + 1 == (1 : Int)) = false := by simp; omega
              have e2 : (no == (1 : Int)) = false := by simp; omega
              show (bif no + 1 == 1 then _ else ((cutC 10 s1).2.1).length) < (bif no == 1 then _ else s1.length)
              rw [e1, e2]; exact hsh

theorem Parse_tot {S : Bytes} (hS : S.length ≤ 10000) : Tot (script_Parse S) (PRes S) := by
  unfold script_Parse
  exact loop_tot (fun x : Bytes × Int × S_Plan => bif x.2.1 == 1 then S.length + 2 else x.1.length) (PInv S) _ (Parse_step hS) _ (.inl ⟨rfl, rfl, rfl⟩)

/-! ### A plan's text -/
theorem nl_cut {a : Bytes} (t : Bytes) (h : a.contains 10 = false) : cutC 10 (nl a ++ t) = (a, t, true) := by
  unfold nl
  rw [List.append_assoc]
  exact cutC_at 10 t h
theorem run_first {x : Bytes} (t : Bytes) (ht : t.length ≤ 900000000) (h : tokenB x = true ∧ x.length ≤ 40) : script_Parse_b1 (nl (wDev ++ x) ++ t, (1 : Int), zeroP) = some (.inl (t, (2 : Int), S_Plan.mk x [] [])) := by
  have hnl : (wDev ++ x).contains 10 = false := by
    have := noNl_bl (token_bl h.1)
    rw [List.contains_eq_any_beq] at this ⊢
    rw [List.any_append, this]; rfl
  have hp : hasPre (wDev ++ x) wDev = true := List.isPrefixOf_iff_prefix.2 (List.prefix_append ..)
  have hd : (wDev ++ x).drop 7 = x := rfl
  have hb := round_first (s1 := nl (wDev ++ x) ++ t) (p := zeroP) (by unfold nl; simp [wDev]; omega) (nl_cut t hnl) (by simp [wDev]; omega) rfl
  rw [hb, hp, cond_true, hd]
  have e : decide (x.length ≤ 40) = true := by simp; exact h.2
  rw [h.1, e]
  simp [zeroP]
theorem run_routes : ∀ (l : List S_Route) (t : Bytes) (no : Int) (p : S_Plan), PSm p → p.Deeds = [] → p.Routes.length + l.length ≤ 100 → routesB (p.Routes ++ l) = true → (∀ r, r ∈ l → RSm r ∧ r.Host ≠ [45]) → 2 ≤ no ∧ no + l.length ≤ 1000000 → t.length ≤ 500000000 →
    loopO script_Parse_b1 ((l.flatMap fun r => nl (wayB r)) ++ t, no, p) = loopO script_Parse_b1 (t, no + l.length, S_Plan.mk p.Device (p.Routes ++ l) p.Deeds)
  | [], t, no, p, _, _, _, _, _, _, _ => by simp
  | r :: l, t, no, p, hp, hd, hn, hok, hl, hno, ht => by
    obtain ⟨hrs, hrh⟩ := hl r (by simp)
    have hok1 : routesB (p.Routes ++ [r]) = true := routesB_pre (b := l) (by rw [List.append_assoc]; exact hok)
    have hro : ROk r := rr_ok hrs ((routesB_all hok).1 r (by simp))
    have hwl := way_len hrs
    obtain ⟨d, hdd, _⟩ := deed_tot (s := wayB r) (by omega)
    have hfl : ((l.flatMap fun r => nl (wayB r)) ++ t).length ≤ 550000000 := by
      have key : ∀ (l : List S_Route), (∀ r, r ∈ l → RSm r) → (l.flatMap fun r => nl (wayB r)).length ≤ l.length * 400011 := by
        intro l
        induction l with
        | nil => intro _; simp
        | cons r l ih =>
          intro h
          have h1 := way_len (h r (by simp))
          have h2 := ih fun x hx => h x (List.mem_cons_of_mem _ hx)
          rw [List.flatMap_cons, List.length_append, List.length_cons, Nat.add_mul]
          unfold nl at h2 ⊢
          rw [List.length_append]
          simp at h2 ⊢; omega
      have h1 := key l fun x hx => (hl x (List.mem_cons_of_mem _ hx)).1
      have h2 : l.length * 400011 ≤ 100 * 400011 := Nat.mul_le_mul_right _ (by simp at hn; omega)
      rw [List.length_append]; omega
    have hne : (List.flatMap (fun r => nl (wayB r)) (r :: l)) ++ t ≠ [] := by
      rw [List.flatMap_cons]; unfold nl; simp
    have e : (List.flatMap (fun r => nl (wayB r)) (r :: l)) ++ t = nl (wayB r) ++ ((l.flatMap fun r => nl (wayB r)) ++ t) := by rw [List.flatMap_cons, List.append_assoc]
    have hnlen : (nl (wayB r)).length = (wayB r).length + 1 := by unfold nl; simp
    have hb := round_more (s1 := (List.flatMap (fun r => nl (wayB r)) (r :: l)) ++ t) (p := p) (no := no) (by rw [e, List.length_append]; omega) hne ⟨hno.1, by have := hno.2; omega⟩ (by rw [e]; exact nl_cut _ (way_nl hro)) (parse_way hrs hro hrh) hdd hp hrs
    unfold stepB at hb
    rw [hok1, hd] at hb
    rw [loopO_eq, hb]
    show loopO script_Parse_b1 (_, no + 1, S_Plan.mk p.Device (p.Routes ++ [r]) ([] : List S_Deed)) = _
    have hp' : PSm (S_Plan.mk p.Device (p.Routes ++ [r]) ([] : List S_Deed)) := ⟨hp.dev, by simp at hn ⊢; omega, fun x hx => by
      rcases List.mem_append.1 hx with hx | hx
      · exact hp.routes x hx
      · simp at hx; subst hx; exact hrs, Nat.zero_le _⟩
    rw [run_routes l t (no + 1) (S_Plan.mk p.Device (p.Routes ++ [r]) []) hp' rfl (by simp at hn ⊢; omega) (by rw [List.append_assoc]; exact hok) (fun x hx => hl x (List.mem_cons_of_mem _ hx)) (by simp at hno; omega) ht]
    rw [List.append_assoc, hd, show no + 1 + (l.length : Int) = no + ((r :: l).length : Int) by simp; omega]
    rfl
theorem run_deeds : ∀ (l : List S_Deed) (t : Bytes) (no : Int) (p : S_Plan), PSm p → p.Deeds.length + l.length ≤ 200 → (∀ d, d ∈ l → rightD d = true) → 2 ≤ no ∧ no + l.length ≤ 1000000 → t.length ≤ 400000000 →
    loopO script_Parse_b1 ((l.flatMap fun d => nl (lineB d)) ++ t, no, p) = loopO script_Parse_b1 (t, no + l.length, S_Plan.mk p.Device p.Routes (p.Deeds ++ l))
  | [], t, no, p, _, _, _, _, _ => by simp
  | d :: l, t, no, p, hp, hn, hl, hno, ht => by
    have hrd := hl d (by simp)
    have hdo := rightD_ok hrd
    have hll := line_len hdo
    obtain ⟨b, u, hbu, hb1, _⟩ := line_head d
    have hrs := routeW_small (s := lineB d) (by omega)
    have hr := parse_eq (s := lineB d) (by omega) hrs
    rw [not_way hbu hb1] at hr
    have hfl : ((l.flatMap fun d => nl (lineB d)) ++ t).length ≤ 450000000 := by
      have key : ∀ (l : List S_Deed), (∀ r, r ∈ l → rightD r = true) → (l.flatMap fun d => nl (lineB d)).length ≤ l.length * 20001 := by
        intro l
        induction l with
        | nil => intro _; simp
        | cons r l ih =>
          intro h
          have h1 := line_len (rightD_ok (h r (by simp)))
          have h2 := ih fun x hx => h x (List.mem_cons_of_mem _ hx)
          rw [List.flatMap_cons, List.length_append, List.length_cons, Nat.add_mul]
          unfold nl at h2 ⊢
          rw [List.length_append]
          simp at h2 ⊢; omega
      have h1 := key l fun x hx => hl x (List.mem_cons_of_mem _ hx)
      have h2 : l.length * 20001 ≤ 200 * 20001 := Nat.mul_le_mul_right _ (by simp at hn; omega)
      rw [List.length_append]; omega
    have hne : (List.flatMap (fun d => nl (lineB d)) (d :: l)) ++ t ≠ [] := by
      rw [List.flatMap_cons]; unfold nl; simp
    have e : (List.flatMap (fun d => nl (lineB d)) (d :: l)) ++ t = nl (lineB d) ++ ((l.flatMap fun d => nl (lineB d)) ++ t) := by rw [List.flatMap_cons, List.append_assoc]
    have hnlen : (nl (lineB d)).length = (lineB d).length + 1 := by unfold nl; simp
    have hb := round_more (s1 := (List.flatMap (fun d => nl (lineB d)) (d :: l)) ++ t) (p := p) (no := no) (by rw [e, List.length_append]; omega) hne ⟨hno.1, by have := hno.2; omega⟩ (by rw [e]; exact nl_cut _ (line_nl d)) hr (deed_line hdo) hp hrs
    unfold stepB at hb
    have e2 : decide (p.Deeds.length + 1 ≤ 200) = true := by simp at hn ⊢; omega
    rw [hrd, e2] at hb
    simp only [Bool.false_and, cond_false, BEq.rfl, Bool.true_and, Bool.and_self, cond_true] at hb
    rw [loopO_eq, hb]
    show loopO script_Parse_b1 (_, no + 1, S_Plan.mk p.Device p.Routes (p.Deeds ++ [d])) = _
    have hp' : PSm (S_Plan.mk p.Device p.Routes (p.Deeds ++ [d])) := ⟨hp.dev, hp.nr, hp.routes, by simp at hn ⊢; omega⟩
    rw [run_deeds l t (no + 1) (S_Plan.mk p.Device p.Routes (p.Deeds ++ [d])) hp' (by simp at hn ⊢; omega) (fun x hx => hl x (List.mem_cons_of_mem _ hx)) (by simp at hno; omega) ht]
    rw [List.append_assoc, show no + 1 + (l.length : Int) = no + ((d :: l).length : Int) by simp; omega]
    rfl
theorem run_text {p : S_Plan} (h : PGood p) (t : Bytes) (ht : t.length ≤ 1000) :
    loopO script_Parse_b1 (textB p ++ t, (1 : Int), zeroP) = loopO script_Parse_b1 (t, (2 : Int) + p.Routes.length + p.Deeds.length, p) := by
  obtain ⟨f1, f2, f3, f4, f5⟩ := h.facts
  have hnr := (routesB_all f2).2
  have hl := text_len h
  have hlen : ((p.Deeds.flatMap fun d => nl (lineB d)) ++ t).length ≤ 400000000 := by
    unfold textB at hl
    simp only [List.length_append] at hl ⊢
    omega
  have e : textB p ++ t = nl (wDev ++ p.Device) ++ ((p.Routes.flatMap fun r => nl (wayB r)) ++ ((p.Deeds.flatMap fun d => nl (lineB d)) ++ t)) := by
    unfold textB; simp [List.append_assoc]
  rw [e, loopO_eq, run_first _ (by unfold textB at hl; simp only [List.length_append] at hl ⊢; omega) f1]
  show loopO script_Parse_b1 _ = _
  rw [run_routes p.Routes _ 2 (S_Plan.mk p.Device [] []) ⟨h.small.dev, Nat.zero_le _, (fun r hr => by cases hr), Nat.zero_le _⟩ rfl (by simp; omega) f2 (fun r hr => ⟨h.small.routes r hr, f3 r hr⟩) (by omega) (by omega)]
  rw [run_deeds p.Deeds t _ (S_Plan.mk p.Device ([] ++ p.Routes) []) ⟨h.small.dev, h.small.nr, h.small.routes, Nat.zero_le _⟩ (by simp; omega) f5 (by omega) (by omega)]
  rfl
theorem parse_text {p : S_Plan} (h : PGood p) : script_Parse (textB p) = some (p, 0, 0) := by
  unfold script_Parse
  have := run_text h [] (by simp)
  rw [List.append_nil] at this
  show loopO script_Parse_b1 (textB p, 1, zeroP) = _
  rw [this, loopO_eq]
  have hb : script_Parse_b1 (([] : Bytes), (2 : Int) + p.Routes.length + p.Deeds.length, p) = some (.inr (p, 0, 0)) := by
    unfold script_Parse_b1
    dsimp only
    have e1 : ((2 : Int) + p.Routes.length + p.Deeds.length == (1 : Int)) = false := by simp; omega
    rw [e1]; rfl
  rw [hb]

/-! ### The same -/
theorem like_refl {p : S_Plan} (h1 : p.Routes.length ≤ 1000000) (h2 : p.Deeds.length ≤ 1000000) : intarsiaref25_Like p p = some true := by
  unfold intarsiaref25_Like
  have e : (bif (bif (!(p.Device == p.Device)) then true else (((p.Routes).length : Int) != ((p.Routes).length : Int))) then true else (((p.Deeds).length : Int) != ((p.Deeds).length : Int))) = false := by simp
  rw [e, cond_false]
  have k2 : loopO (intarsiaref25_Like_b2 p p) (0 : Int) = some (.inr true) := by
    have key : ∀ (n i : Nat), i + n = p.Deeds.length → loopO (intarsiaref25_Like_b2 p p) (i : Int) = some (.inr true) := by
      intro n
      induction n with
      | zero =>
        intro i hi
        have : i = p.Deeds.length := by omega
        subst this
        rw [loopO_eq]
        unfold intarsiaref25_Like_b2
        rw [dlt_self]; rfl
      | succ n ih =>
        intro i hi
        have hlt : i < p.Deeds.length := by omega
        have hx := List.getElem?_eq_getElem hlt
        have hb : intarsiaref25_Like_b2 p p (i : Int) = some (.inl ((i + 1 : Nat) : Int)) := by
          unfold intarsiaref25_Like_b2
          rw [dlt_true hlt, cond_true, idx_at hx, Option.bind_some, Option.bind_some, wrap_inc hlt (big1 h2)]
          simp
        rw [loopO_eq, hb]
        exact ih (i + 1) (by omega)
    exact key p.Deeds.length 0 (by omega)
  have key : ∀ (n i : Nat), i + n = p.Routes.length → loopO (intarsiaref25_Like_b1 p p) (i : Int) = some true := by
    intro n
    induction n with
    | zero =>
      intro i hi
      have : i = p.Routes.length := by omega
      subst this
      rw [loopO_eq]
      have hb : intarsiaref25_Like_b1 p p ((p.Routes.length : Nat) : Int) = some (.inr true) := by
        unfold intarsiaref25_Like_b1
        rw [dlt_self, cond_false, k2]
      rw [hb]
    | succ n ih =>
      intro i hi
      have hlt : i < p.Routes.length := by omega
      have hx := List.getElem?_eq_getElem hlt
      have hb : intarsiaref25_Like_b1 p p (i : Int) = some (.inl ((i + 1 : Nat) : Int)) := by
        unfold intarsiaref25_Like_b1
        rw [dlt_true hlt, cond_true, idx_at hx, Option.bind_some, Option.bind_some, wrap_inc hlt (big1 h1)]
        simp
      rw [loopO_eq, hb]
      exact ih (i + 1) (by omega)
  exact key p.Routes.length 0 (by omega)
end Go.Proofs.YtkfoahoplndelaaGreatDoor
