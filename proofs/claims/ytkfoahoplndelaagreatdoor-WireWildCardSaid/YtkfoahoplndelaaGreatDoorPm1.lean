/-
  Generic: abstract values for plain Go data, how a machine value stands for one, and what is known of memory. No program in sight.
-/
import Derived.Calls
import Derived.Orders
import Derived.Below
namespace Go.Pm
open Go Go.RowKit
abbrev Bytes := List UInt8
inductive AV where
  | any
  | bool (b : Bool)
  | int (k : IntKind) (n : Int)
  | str (s : Bytes)
  | list (sz : Nat) (xs : List AV)
  | row (id off len : Nat)
  | agg (cs : List AV)
  | tup (cs : List AV)
  | ptr (id off : Nat)
  | iptr (cs : List AV)
  | nilp
  | fn (f : FuncId) (first caps : List AV)
  | nilf
  | iface (t : TypeId) (v : AV)
  | nili
  | glob (g : Nat)
  | mapv (id : Nat)
  | cond (b : Bool) (v : AV)
def AV.cells : AV → List AV
  | .agg cs => cs
  | v => [v]
structure Gh where
  F : Nat → Nat → Prop
  ι : Nat → Option Nat
  κ : Nat → Option (Nat × Nat × Nat)
  O : Nat → Option (Nat ⊕ Nat)
inductive Rep (F : Nat → Nat → Prop) (w : World) : (Nat → Option Nat) → Value → AV → Prop
  | any (ι) (v : Value) : Rep F w ι v .any
  | bool (ι) (b : Bool) : Rep F w ι (.bool b) (.bool b)
  | int (ι) (k : IntKind) (n : Int) (h : k.wrap n = n) : Rep F w ι (.int k n) (.int k n)
  | str (ι) (s : Bytes) (h : s.length ≤ maxLen) : Rep F w ι (.string ⟨s.toArray⟩) (.str s)
  | empty (ι) (a : Option Addr) (cap sz : Nat) (h : cap ≤ maxLen) : Rep F w ι (.slice a 0 cap) (.list sz [])
  | list (ι) (b o n cap sz : Nat) (xs : List AV) (vals : Nat → Nat → Value) (hn : n = xs.length) (hc : n ≤ cap) (hm : cap ≤ maxLen)
      (hsz : ∀ e, e ∈ xs → e.cells.length = sz) (hF : ∀ j, j < xs.length * sz → F b (o + j))
      (hv : ∀ (i : Nat) (e : AV) (j : Nat) (c : AV), xs[i]? = some e → e.cells[j]? = some c → w.cell? ⟨b, o + (i * sz + j), none⟩ = some (vals i j) ∧ (vals i j).oneCell' = true)
      (hr : ∀ (i : Nat) (e : AV) (j : Nat) (c : AV), xs[i]? = some e → e.cells[j]? = some c → Rep F w (fun _ => none) (vals i j) c) : Rep F w ι (.slice (some ⟨b, o, none⟩) n cap) (.list sz xs)
  | row (ι) (id off len cap g : Nat) (h : ι id = some g) (hc : len ≤ cap) (hm : cap ≤ maxLen) : Rep F w ι (.slice (some ⟨g, off, none⟩) len cap) (.row id off len)
  | row0 (ι) (id off cap : Nat) (a : Option Addr) (hm : cap ≤ maxLen) : Rep F w ι (.slice a 0 cap) (.row id off 0)
  | agg (ι) (vs : List Value) (cs : List AV) (hl : vs.length = cs.length) (ho : ∀ v, v ∈ vs → v.oneCell' = true) (h : ∀ (i : Nat) (v : Value) (c : AV), vs[i]? = some v → cs[i]? = some c → Rep F w ι v c) : Rep F w ι (.agg vs.toArray) (.agg cs)
  | tup (ι) (vs : List Value) (cs : List AV) (hl : vs.length = cs.length) (h : ∀ (i : Nat) (v : Value) (c : AV), vs[i]? = some v → cs[i]? = some c → Rep F w ι v c) : Rep F w ι (.tuple vs.toArray) (.tup cs)
  | ptr (ι) (id off g : Nat) (h : ι id = some g) : Rep F w ι (.pointer (some ⟨g, off, none⟩)) (.ptr id off)
  | iptr (ι) (b o : Nat) (cs : List AV) (vals : Nat → Value) (hF : ∀ j, j < cs.length → F b (o + j))
      (hv : ∀ (j : Nat) (c : AV), cs[j]? = some c → w.cell? ⟨b, o + j, none⟩ = some (vals j) ∧ (vals j).oneCell' = true)
      (hr : ∀ (j : Nat) (c : AV), cs[j]? = some c → Rep F w (fun _ => none) (vals j) c) : Rep F w ι (.pointer (some ⟨b, o, none⟩)) (.iptr cs)
  | nilp (ι) : Rep F w ι (.pointer none) .nilp
  | fn (ι) (f : FuncId) (fs cs : List Value) (fs' cs' : List AV) (hl : fs.length = fs'.length) (hl' : cs.length = cs'.length)
      (h : ∀ (i : Nat) (v : Value) (c : AV), fs[i]? = some v → fs'[i]? = some c → Rep F w ι v c) (h' : ∀ (i : Nat) (v : Value) (c : AV), cs[i]? = some v → cs'[i]? = some c → Rep F w ι v c) :
      Rep F w ι (.func (.func f) fs.toArray cs.toArray) (.fn f fs' cs')
  | nilf (ι) : Rep F w ι .nilFunc .nilf
  | iface (ι) (t : TypeId) (v : Value) (a : AV) (h : Rep F w ι v a) : Rep F w ι (.iface t v) (.iface t a)
  | nili (ι) : Rep F w ι .nilIface .nili
  | glob (ι) (g : Nat) : Rep F w ι (.pointer (some ⟨g, 0, none⟩)) (.glob g)
  | mapv (ι) (id g : Nat) (h : ι id = some g) : Rep F w ι (.map (some g)) (.mapv id)
  | cond0 (ι) (a : AV) : Rep F w ι undef (.cond false a)
  | cond1 (ι) (v : Value) (a : AV) (h : Rep F w ι v a) : Rep F w ι v (.cond true a)
theorem Rep.mono {F F' : Nat → Nat → Prop} {w w' : World} {ι : Nat → Option Nat} {v : Value} {a : AV} (h : Rep F w ι v a)
    (hF : ∀ b o, F b o → F' b o) (hw : ∀ b o, F b o → w'.cell? ⟨b, o, none⟩ = w.cell? ⟨b, o, none⟩) :
    ∀ ι', (∀ i g, ι i = some g → ι' i = some g) → Rep F' w' ι' v a := by
  induction h with
  | any => intro ι' _; exact .any ..
  | bool => intro ι' _; exact .bool ..
  | int ι k n h => intro ι' _; exact .int _ _ _ h
  | str ι s h => intro ι' _; exact .str _ _ h
  | empty ι a cap sz h => intro ι' _; exact .empty _ _ _ _ h
  | list ι b o n cap sz xs vals hn hc hm hsz hF' hv hr ih =>
    intro ι' _
    refine .list ι' b o n cap sz xs vals hn hc hm hsz (fun j hj => hF _ _ (hF' j hj)) (fun i e j c he hc => ?_) (fun i e j c he hc => ih i e j c he hc _ (fun _ _ h => h))
    have hi : i < xs.length := (List.getElem?_eq_some_iff.1 he).1
    have hj : j < sz := by
      have := hsz e (List.mem_of_getElem? he)
      have := (List.getElem?_eq_some_iff.1 hc).1
      omega
    have : i * sz + j < xs.length * sz := by
      have h1 : (i + 1) * sz ≤ xs.length * sz := Nat.mul_le_mul_right _ hi
      rw [Nat.add_mul] at h1
      omega
    rw [hw _ _ (hF' _ this)]
    exact hv i e j c he hc
  | row ι id off len cap g h hc hm => intro ι' hι; exact .row _ _ _ _ _ _ (hι _ _ h) hc hm
  | row0 ι id off cap a hm => intro ι' _; exact .row0 _ _ _ _ _ hm
  | agg ι vs cs hl ho _ ih => intro ι' hι; exact .agg _ _ _ hl ho fun i v c hv hc => ih i v c hv hc _ hι
  | tup ι vs cs hl _ ih => intro ι' hι; exact .tup _ _ _ hl fun i v c hv hc => ih i v c hv hc _ hι
  | ptr ι id off g h => intro ι' hι; exact .ptr _ _ _ _ (hι _ _ h)
  | iptr ι b o cs vals hF' hv hr ih =>
    intro ι' _
    refine .iptr ι' b o cs vals (fun j hj => hF _ _ (hF' j hj)) (fun j c hc => ?_) (fun j c hc => ih j c hc _ (fun _ _ h => h))
    rw [hw _ _ (hF' _ (List.getElem?_eq_some_iff.1 hc).1)]
    exact hv j c hc
  | nilp => intro ι' _; exact .nilp _
  | fn ι f fs cs fs' cs' hl hl' _ _ ih ih' =>
    intro ι' hι
    exact .fn _ _ _ _ _ _ hl hl' (fun i v c hv hc => ih i v c hv hc _ hι) (fun i v c hv hc => ih' i v c hv hc _ hι)
  | nilf => intro ι' _; exact .nilf _
  | iface ι t v a _ ih => intro ι' hι; exact .iface _ _ _ _ (ih _ hι)
  | nili => intro ι' _; exact .nili _
  | glob => intro ι' _; exact .glob ..
  | mapv ι id g h => intro ι' hι; exact .mapv _ _ _ (hι _ _ h)
  | cond0 => intro ι' _; exact .cond0 ..
  | cond1 ι v a _ ih => intro ι' hι; exact .cond1 _ _ _ (ih _ hι)
inductive Wf : AV → Prop
  | any : Wf .any
  | bool (b) : Wf (.bool b)
  | int (k n) (h : IntKind.wrap k n = n) : Wf (.int k n)
  | str (s) (h : s.length ≤ maxLen) : Wf (.str s)
  | list (sz xs) (h : xs.length ≤ maxLen) (h' : ∀ (i : Nat) (e : AV) (j : Nat) (c : AV), xs[i]? = some e → e.cells[j]? = some c → Wf c) (hsz : ∀ e, e ∈ xs → e.cells.length = sz) : Wf (.list sz xs)
  | row (id off len) : Wf (.row id off len)
  | agg (cs) (h : ∀ c, c ∈ cs → Wf c) : Wf (.agg cs)
  | tup (cs) (h : ∀ c, c ∈ cs → Wf c) : Wf (.tup cs)
  | ptr (id off) : Wf (.ptr id off)
  | iptr (cs) (h : ∀ c, c ∈ cs → Wf c) : Wf (.iptr cs)
  | nilp : Wf .nilp
  | fn (f a b) : Wf (.fn f a b)
  | nilf : Wf .nilf
  | iface (t v) (h : Wf v) : Wf (.iface t v)
  | nili : Wf .nili
  | glob (g) : Wf (.glob g)
  | mapv (id) : Wf (.mapv id)
  | cond0 (v) : Wf (.cond false v)
  | cond1 (v) (h : Wf v) : Wf (.cond true v)
theorem Rep.wf {F : Nat → Nat → Prop} {w : World} {ι : Nat → Option Nat} {v : Value} {a : AV} (h : Rep F w ι v a) : Wf a := by
  induction h with
  | any => exact .any
  | bool => exact .bool _
  | int ι k n h => exact .int _ _ h
  | str ι s h => exact .str _ h
  | empty => exact .list _ _ (by simp) (by simp) (by simp)
  | list ι b o n cap sz xs vals hn hc hm hsz hF' hv hr ih =>
    refine .list _ _ (by omega) (fun i e j c he hc => ih i e j c he hc) hsz
  | row => exact .row ..
  | row0 => exact .row ..
  | agg ι vs cs hl ho _ ih =>
    refine .agg _ fun c hc => ?_
    obtain ⟨i, hi, rfl⟩ := List.getElem_of_mem hc
    exact ih i (vs[i]'(by omega)) _ (List.getElem?_eq_getElem _) (List.getElem?_eq_getElem hi)
  | tup ι vs cs hl _ ih =>
    refine .tup _ fun c hc => ?_
    obtain ⟨i, hi, rfl⟩ := List.getElem_of_mem hc
    exact ih i (vs[i]'(by omega)) _ (List.getElem?_eq_getElem _) (List.getElem?_eq_getElem hi)
  | ptr => exact .ptr ..
  | iptr ι b o cs vals hF' hv hr ih =>
    refine .iptr _ fun c hc => ?_
    obtain ⟨i, hi, rfl⟩ := List.getElem_of_mem hc
    exact ih i _ (List.getElem?_eq_getElem hi)
  | nilp => exact .nilp
  | fn => exact .fn ..
  | nilf => exact .nilf
  | iface ι t v a _ ih => exact .iface _ _ ih
  | nili => exact .nili
  | glob => exact .glob _
  | mapv => exact .mapv _
  | cond0 => exact .cond0 _
  | cond1 ι v a _ ih => exact .cond1 _ ih
inductive NoId (n : Nat) : AV → Prop
  | any : NoId n .any
  | bool (b) : NoId n (.bool b)
  | int (k m) : NoId n (.int k m)
  | str (s) : NoId n (.str s)
  | list (sz xs) : NoId n (.list sz xs)
  | row (id off len) (h : id < n) : NoId n (.row id off len)
  | agg (cs) (h : ∀ c, c ∈ cs → NoId n c) : NoId n (.agg cs)
  | tup (cs) (h : ∀ c, c ∈ cs → NoId n c) : NoId n (.tup cs)
  | ptr (id off) (h : id < n) : NoId n (.ptr id off)
  | iptr (cs) : NoId n (.iptr cs)
  | nilp : NoId n .nilp
  | fn (f a b) (h : ∀ c, c ∈ a → NoId n c) (h' : ∀ c, c ∈ b → NoId n c) : NoId n (.fn f a b)
  | nilf : NoId n .nilf
  | iface (t v) (h : NoId n v) : NoId n (.iface t v)
  | nili : NoId n .nili
  | glob (g) : NoId n (.glob g)
  | mapv (id) (h : id < n) : NoId n (.mapv id)
  | cond0 (v) : NoId n (.cond false v)
  | cond (b v) (h : NoId n v) : NoId n (.cond b v)
theorem Rep.noId {F : Nat → Nat → Prop} {w : World} {ι : Nat → Option Nat} {v : Value} {a : AV} (h : Rep F w ι v a) :
    ∀ n ι', NoId n a → (∀ i g, i < n → ι i = some g → ι' i = some g) → Rep F w ι' v a := by
  induction h with
  | any => intro n ι' _ _; exact .any ..
  | bool => intro n ι' _ _; exact .bool ..
  | int ι k n h => intro n ι' _ _; exact .int _ _ _ h
  | str ι s h => intro n ι' _ _; exact .str _ _ h
  | empty ι a cap sz h => intro n ι' _ _; exact .empty _ _ _ _ h
  | list ι b o n cap sz xs vals hn hc hm hsz hF' hv hr ih => intro n ι' _ _; exact .list _ _ _ _ _ _ _ vals hn hc hm hsz hF' hv hr
  | row ι id off len cap g h hc hm => intro n ι' hn hι; cases hn with | row _ _ _ hlt => exact .row _ _ _ _ _ _ (hι _ _ hlt h) hc hm
  | row0 ι id off cap a hm => intro n ι' _ _; exact .row0 _ _ _ _ _ hm
  | agg ι vs cs hl ho _ ih =>
    intro n ι' hn hι
    cases hn with | agg _ hn => exact .agg _ _ _ hl ho fun i v c hv hc => ih i v c hv hc n _ (hn c (List.mem_of_getElem? hc)) hι
  | tup ι vs cs hl _ ih =>
    intro n ι' hn hι
    cases hn with | tup _ hn => exact .tup _ _ _ hl fun i v c hv hc => ih i v c hv hc n _ (hn c (List.mem_of_getElem? hc)) hι
  | ptr ι id off g h => intro n ι' hn hι; cases hn with | ptr _ _ hlt => exact .ptr _ _ _ _ (hι _ _ hlt h)
  | iptr ι b o cs vals hF' hv hr ih => intro n ι' _ _; exact .iptr _ _ _ _ vals hF' hv hr
  | nilp => intro n ι' _ _; exact .nilp _
  | fn ι f fs cs fs' cs' hl hl' _ _ ih ih' =>
    intro n ι' hn hι
    cases hn with | fn _ _ _ h1 h2 =>
    exact .fn _ _ _ _ _ _ hl hl' (fun i v c hv hc => ih i v c hv hc n _ (h1 c (List.mem_of_getElem? hc)) hι) (fun i v c hv hc => ih' i v c hv hc n _ (h2 c (List.mem_of_getElem? hc)) hι)
  | nilf => intro n ι' _ _; exact .nilf _
  | iface ι t v a _ ih => intro n ι' hn hι; cases hn with | iface _ _ h => exact .iface _ _ _ _ (ih n _ h hι)
  | nili => intro n ι' _ _; exact .nili _
  | glob => intro n ι' _ _; exact .glob ..
  | mapv ι id g h => intro n ι' hn hι; cases hn with | mapv _ hlt => exact .mapv _ _ _ (hι _ _ hlt h)
  | cond0 => intro n ι' _ _; exact .cond0 ..
  | cond1 ι v a _ ih => intro n ι' hn hι; cases hn with | cond _ _ h => exact .cond1 _ _ _ (ih n _ h hι)
abbrev Pu (a : AV) : Prop := NoId 0 a
theorem Rep.pure {F : Nat → Nat → Prop} {w : World} {ι : Nat → Option Nat} {v : Value} {a : AV} (h : Rep F w ι v a) (hp : Pu a) (ι') : Rep F w ι' v a :=
  h.noId 0 ι' hp (fun _ _ h => absurd h (by omega))
def AV.one : AV → Bool
  | .any | .agg _ | .tup _ | .cond _ _ => false
  | _ => true
theorem Rep.one {F : Nat → Nat → Prop} {w : World} {ι : Nat → Option Nat} {v : Value} {a : AV} (h : Rep F w ι v a) (ho : a.one = true) : v.oneCell' = true := by
  cases h <;> first | rfl | (simp [AV.one] at ho)
end Go.Pm
