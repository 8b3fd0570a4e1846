/-
  Generic: types' facts, constants, guards; what makes one operation a step.
-/
import Derived.Calls
import Derived.Orders
import Derived.Below
import Derived.MapKept
import Derived.Laws.Entries
import Derived.WalkKit
namespace Go.Pm
open Go Go.RowKit
set_option linter.unusedSimpArgs false
set_option linter.unusedVariables false
abbrev Bytes := List UInt8
inductive AV where
  | any
  | bool (b : Bool)
  | int (k : IntKind) (n : Int)
  | str (s : Bytes)
  | list (sz : Nat) (xs : List AV)
  | row (id off len sz : Nat)
  | rowR (id off len sz : Nat)
  | agg (cs : List AV)
  | tup (cs : List AV)
  | ptr (id off : Nat)
  | iptr (cs : List AV)
  | nilp
  | fn (f : FuncId) (first caps : List AV)
  | nilf
  | iface (t : TypeId) (v : AV)
  | nili
  | glob (g : Nat)
  | mapv (id : Nat)
  | cond (b : Bool) (v : AV)
def AV.cells : AV → List AV
  | .agg cs => cs
  | v => [v]
structure Gh where
  F : Nat → Nat → Prop
  ι : Nat → Option Nat
  κ : Nat → Option (Nat × Nat × Nat)
  O : Nat → Option (Nat ⊕ Nat)
def RoomIn (w : World) (g n : Nat) : Prop := ∃ vals t fz, w.heap[g]? = some (.cells vals t fz) ∧ n = vals.size
def Grows (w w' : World) (g : Nat) : Prop := ∀ n, RoomIn w g n → RoomIn w' g n
inductive Rep (F : Nat → Nat → Prop) (w : World) : (Nat → Option Nat) → Value → AV → Prop
  | any (ι) (v : Value) : Rep F w ι v .any
  | bool (ι) (b : Bool) : Rep F w ι (.bool b) (.bool b)
  | int (ι) (k : IntKind) (n : Int) (h : k.wrap n = n) : Rep F w ι (.int k n) (.int k n)
  | str (ι) (s : Bytes) (h : s.length ≤ maxLen) : Rep F w ι (.string ⟨s.toArray⟩) (.str s)
  | empty (ι) (a : Option Addr) (cap sz : Nat) (h : cap ≤ maxLen) : Rep F w ι (.slice a 0 cap) (.list sz [])
  | list (ι) (b o n cap sz : Nat) (xs : List AV) (vals : Nat → Nat → Value) (hn : n = xs.length) (hc : n ≤ cap) (hm : cap ≤ maxLen)
      (hsz : ∀ e, e ∈ xs → e.cells.length = sz) (hF : ∀ j, j < xs.length * sz → F b (o + j))
      (hv : ∀ (i : Nat) (e : AV) (j : Nat) (c : AV), xs[i]? = some e → e.cells[j]? = some c → w.cell? ⟨b, o + (i * sz + j), none⟩ = some (vals i j) ∧ (vals i j).oneCell' = true)
      (hr : ∀ (i : Nat) (e : AV) (j : Nat) (c : AV), xs[i]? = some e → e.cells[j]? = some c → Rep F w (fun _ => none) (vals i j) c) : Rep F w ι (.slice (some ⟨b, o, none⟩) n cap) (.list sz xs)
  | row (ι) (id off len cap sz g : Nat) (h : ι id = some g) (hc : len ≤ cap) (hm : cap ≤ maxLen) (hb : 0 < sz → RoomIn w g (off + cap * sz)) : Rep F w ι (.slice (some ⟨g, off, none⟩) len cap) (.row id off len sz)
  | rowR (ι) (id off len cap sz g : Nat) (h : ι id = some g) (hc : len ≤ cap) (hm : cap ≤ maxLen) (hs : 0 < sz) (hb : RoomIn w g (off + cap * sz)) : Rep F w ι (.slice (some ⟨g, off, none⟩) len cap) (.rowR id off len sz)
  | row0 (ι) (id off sz : Nat) (a : Option Addr) : Rep F w ι (.slice a 0 0) (.row id off 0 sz)
  | agg (ι) (vs : List Value) (cs : List AV) (hl : vs.length = cs.length) (ho : ∀ v, v ∈ vs → v.oneCell' = true) (h : ∀ (i : Nat) (v : Value) (c : AV), vs[i]? = some v → cs[i]? = some c → Rep F w ι v c) : Rep F w ι (.agg vs.toArray) (.agg cs)
  | tup (ι) (vs : List Value) (cs : List AV) (hl : vs.length = cs.length) (h : ∀ (i : Nat) (v : Value) (c : AV), vs[i]? = some v → cs[i]? = some c → Rep F w ι v c) : Rep F w ι (.tuple vs.toArray) (.tup cs)
  | ptr (ι) (id off g : Nat) (h : ι id = some g) : Rep F w ι (.pointer (some ⟨g, off, none⟩)) (.ptr id off)
  | iptr (ι) (b o : Nat) (cs : List AV) (vals : Nat → Value) (hF : ∀ j, j < cs.length → F b (o + j))
      (hv : ∀ (j : Nat) (c : AV), cs[j]? = some c → w.cell? ⟨b, o + j, none⟩ = some (vals j) ∧ (vals j).oneCell' = true)
      (hr : ∀ (j : Nat) (c : AV), cs[j]? = some c → Rep F w (fun _ => none) (vals j) c) : Rep F w ι (.pointer (some ⟨b, o, none⟩)) (.iptr cs)
  | nilp (ι) : Rep F w ι (.pointer none) .nilp
  | fn (ι) (f : FuncId) (fs cs : List Value) (fs' cs' : List AV) (hl : fs.length = fs'.length) (hl' : cs.length = cs'.length)
      (h : ∀ (i : Nat) (v : Value) (c : AV), fs[i]? = some v → fs'[i]? = some c → Rep F w ι v c) (h' : ∀ (i : Nat) (v : Value) (c : AV), cs[i]? = some v → cs'[i]? = some c → Rep F w ι v c) :
      Rep F w ι (.func (.func f) fs.toArray cs.toArray) (.fn f fs' cs')
  | nilf (ι) : Rep F w ι .nilFunc .nilf
  | iface (ι) (t : TypeId) (v : Value) (a : AV) (h : Rep F w ι v a) : Rep F w ι (.iface t v) (.iface t a)
  | nili (ι) : Rep F w ι .nilIface .nili
  | glob (ι) (g : Nat) : Rep F w ι (.pointer (some ⟨g, 0, none⟩)) (.glob g)
  | mapv (ι) (id g : Nat) (h : ι id = some g) : Rep F w ι (.map (some g)) (.mapv id)
  | cond0 (ι) (a : AV) : Rep F w ι undef (.cond false a)
  | cond1 (ι) (v : Value) (a : AV) (h : Rep F w ι v a) : Rep F w ι v (.cond true a)
theorem Rep.mono {F F' : Nat → Nat → Prop} {w w' : World} {ι : Nat → Option Nat} {v : Value} {a : AV} (h : Rep F w ι v a)
    (hF : ∀ b o, F b o → F' b o) (hw : ∀ b o, F b o → w'.cell? ⟨b, o, none⟩ = w.cell? ⟨b, o, none⟩) :
    ∀ ι', (∀ i g, ι i = some g → ι' i = some g ∧ Grows w w' g) → Rep F' w' ι' v a := by
  induction h with
  | any => intro ι' _; exact .any ..
  | bool => intro ι' _; exact .bool ..
  | int ι k n h => intro ι' _; exact .int _ _ _ h
  | str ι s h => intro ι' _; exact .str _ _ h
  | empty ι a cap sz h => intro ι' _; exact .empty _ _ _ _ h
  | list ι b o n cap sz xs vals hn hc hm hsz hF' hv hr ih =>
    intro ι' _
    refine .list ι' b o n cap sz xs vals hn hc hm hsz (fun j hj => hF _ _ (hF' j hj)) (fun i e j c he hc => ?_) (fun i e j c he hc => ih i e j c he hc _ (fun _ _ h => by cases h))
    have hi : i < xs.length := (List.getElem?_eq_some_iff.1 he).1
    have hj : j < sz := by
      have := hsz e (List.mem_of_getElem? he)
      have := (List.getElem?_eq_some_iff.1 hc).1
      omega
    have : i * sz + j < xs.length * sz := by
      have h1 : (i + 1) * sz ≤ xs.length * sz := Nat.mul_le_mul_right _ hi
      rw [Nat.add_mul] at h1
      omega
    rw [hw _ _ (hF' _ this)]
    exact hv i e j c he hc
  | row ι id off len cap sz g h hc hm hb => intro ι' hι; exact .row _ _ _ _ _ _ _ (hι _ _ h).1 hc hm (fun hs => (hι _ _ h).2 _ (hb hs))
  | rowR ι id off len cap sz g h hc hm hs hb => intro ι' hι; exact .rowR _ _ _ _ _ _ _ (hι _ _ h).1 hc hm hs ((hι _ _ h).2 _ hb)
  | row0 => intro ι' _; exact .row0 ..
  | agg ι vs cs hl ho _ ih => intro ι' hι; exact .agg _ _ _ hl ho fun i v c hv hc => ih i v c hv hc _ hι
  | tup ι vs cs hl _ ih => intro ι' hι; exact .tup _ _ _ hl fun i v c hv hc => ih i v c hv hc _ hι
  | ptr ι id off g h => intro ι' hι; exact .ptr _ _ _ _ (hι _ _ h).1
  | iptr ι b o cs vals hF' hv hr ih =>
    intro ι' _
    refine .iptr ι' b o cs vals (fun j hj => hF _ _ (hF' j hj)) (fun j c hc => ?_) (fun j c hc => ih j c hc _ (fun _ _ h => by cases h))
    rw [hw _ _ (hF' _ (List.getElem?_eq_some_iff.1 hc).1)]
    exact hv j c hc
  | nilp => intro ι' _; exact .nilp _
  | fn ι f fs cs fs' cs' hl hl' _ _ ih ih' =>
    intro ι' hι
    exact .fn _ _ _ _ _ _ hl hl' (fun i v c hv hc => ih i v c hv hc _ hι) (fun i v c hv hc => ih' i v c hv hc _ hι)
  | nilf => intro ι' _; exact .nilf _
  | iface ι t v a _ ih => intro ι' hι; exact .iface _ _ _ _ (ih _ hι)
  | nili => intro ι' _; exact .nili _
  | glob => intro ι' _; exact .glob ..
  | mapv ι id g h => intro ι' hι; exact .mapv _ _ _ (hι _ _ h).1
  | cond0 => intro ι' _; exact .cond0 ..
  | cond1 ι v a _ ih => intro ι' hι; exact .cond1 _ _ _ (ih _ hι)
inductive Wf : AV → Prop
  | any : Wf .any
  | bool (b) : Wf (.bool b)
  | int (k n) (h : IntKind.wrap k n = n) : Wf (.int k n)
  | str (s) (h : s.length ≤ maxLen) : Wf (.str s)
  | list (sz xs) (h : xs.length ≤ maxLen) (h' : ∀ (i : Nat) (e : AV) (j : Nat) (c : AV), xs[i]? = some e → e.cells[j]? = some c → Wf c) (hsz : ∀ e, e ∈ xs → e.cells.length = sz) : Wf (.list sz xs)
  | row (id off len sz) : Wf (.row id off len sz)
  | rowR (id off len sz) : Wf (.rowR id off len sz)
  | agg (cs) (h : ∀ c, c ∈ cs → Wf c) : Wf (.agg cs)
  | tup (cs) (h : ∀ c, c ∈ cs → Wf c) : Wf (.tup cs)
  | ptr (id off) : Wf (.ptr id off)
  | iptr (cs) (h : ∀ c, c ∈ cs → Wf c) : Wf (.iptr cs)
  | nilp : Wf .nilp
  | fn (f a b) : Wf (.fn f a b)
  | nilf : Wf .nilf
  | iface (t v) (h : Wf v) : Wf (.iface t v)
  | nili : Wf .nili
  | glob (g) : Wf (.glob g)
  | mapv (id) : Wf (.mapv id)
  | cond0 (v) : Wf (.cond false v)
  | cond1 (v) (h : Wf v) : Wf (.cond true v)
theorem Rep.wf {F : Nat → Nat → Prop} {w : World} {ι : Nat → Option Nat} {v : Value} {a : AV} (h : Rep F w ι v a) : Wf a := by
  induction h with
  | any => exact .any
  | bool => exact .bool _
  | int ι k n h => exact .int _ _ h
  | str ι s h => exact .str _ h
  | empty => exact .list _ _ (by simp) (by simp) (by simp)
  | list ι b o n cap sz xs vals hn hc hm hsz hF' hv hr ih =>
    refine .list _ _ (by omega) (fun i e j c he hc => ih i e j c he hc) hsz
  | row => exact .row ..
  | rowR => exact .rowR ..
  | row0 => exact .row ..
  | agg ι vs cs hl ho _ ih =>
    refine .agg _ fun c hc => ?_
    obtain ⟨i, hi, rfl⟩ := List.getElem_of_mem hc
    exact ih i (vs[i]'(by omega)) _ (List.getElem?_eq_getElem _) (List.getElem?_eq_getElem hi)
  | tup ι vs cs hl _ ih =>
    refine .tup _ fun c hc => ?_
    obtain ⟨i, hi, rfl⟩ := List.getElem_of_mem hc
    exact ih i (vs[i]'(by omega)) _ (List.getElem?_eq_getElem _) (List.getElem?_eq_getElem hi)
  | ptr => exact .ptr ..
  | iptr ι b o cs vals hF' hv hr ih =>
    refine .iptr _ fun c hc => ?_
    obtain ⟨i, hi, rfl⟩ := List.getElem_of_mem hc
    exact ih i _ (List.getElem?_eq_getElem hi)
  | nilp => exact .nilp
  | fn => exact .fn ..
  | nilf => exact .nilf
  | iface ι t v a _ ih => exact .iface _ _ ih
  | nili => exact .nili
  | glob => exact .glob _
  | mapv => exact .mapv _
  | cond0 => exact .cond0 _
  | cond1 ι v a _ ih => exact .cond1 _ ih
inductive NoId (n : Nat) : AV → Prop
  | any : NoId n .any
  | bool (b) : NoId n (.bool b)
  | int (k m) : NoId n (.int k m)
  | str (s) : NoId n (.str s)
  | list (sz xs) : NoId n (.list sz xs)
  | row (id off len sz) (h : id < n) : NoId n (.row id off len sz)
  | rowR (id off len sz) (h : id < n) : NoId n (.rowR id off len sz)
  | agg (cs) (h : ∀ c, c ∈ cs → NoId n c) : NoId n (.agg cs)
  | tup (cs) (h : ∀ c, c ∈ cs → NoId n c) : NoId n (.tup cs)
  | ptr (id off) (h : id < n) : NoId n (.ptr id off)
  | iptr (cs) : NoId n (.iptr cs)
  | nilp : NoId n .nilp
  | fn (f a b) (h : ∀ c, c ∈ a → NoId n c) (h' : ∀ c, c ∈ b → NoId n c) : NoId n (.fn f a b)
  | nilf : NoId n .nilf
  | iface (t v) (h : NoId n v) : NoId n (.iface t v)
  | nili : NoId n .nili
  | glob (g) : NoId n (.glob g)
  | mapv (id) (h : id < n) : NoId n (.mapv id)
  | cond0 (v) : NoId n (.cond false v)
  | cond (b v) (h : NoId n v) : NoId n (.cond b v)
theorem Rep.noId {F : Nat → Nat → Prop} {w : World} {ι : Nat → Option Nat} {v : Value} {a : AV} (h : Rep F w ι v a) :
    ∀ n ι', NoId n a → (∀ i g, i < n → ι i = some g → ι' i = some g) → Rep F w ι' v a := by
  induction h with
  | any => intro n ι' _ _; exact .any ..
  | bool => intro n ι' _ _; exact .bool ..
  | int ι k n h => intro n ι' _ _; exact .int _ _ _ h
  | str ι s h => intro n ι' _ _; exact .str _ _ h
  | empty ι a cap sz h => intro n ι' _ _; exact .empty _ _ _ _ h
  | list ι b o n cap sz xs vals hn hc hm hsz hF' hv hr ih => intro n ι' _ _; exact .list _ _ _ _ _ _ _ vals hn hc hm hsz hF' hv hr
  | row ι id off len cap sz g h hc hm hb => intro n ι' hn hι; cases hn with | row _ _ _ _ hlt => exact .row _ _ _ _ _ _ _ (hι _ _ hlt h) hc hm hb
  | rowR ι id off len cap sz g h hc hm hs hb => intro n ι' hn hι; cases hn with | rowR _ _ _ _ hlt => exact .rowR _ _ _ _ _ _ _ (hι _ _ hlt h) hc hm hs hb
  | row0 => intro n ι' _ _; exact .row0 ..
  | agg ι vs cs hl ho _ ih =>
    intro n ι' hn hι
    cases hn with | agg _ hn => exact .agg _ _ _ hl ho fun i v c hv hc => ih i v c hv hc n _ (hn c (List.mem_of_getElem? hc)) hι
  | tup ι vs cs hl _ ih =>
    intro n ι' hn hι
    cases hn with | tup _ hn => exact .tup _ _ _ hl fun i v c hv hc => ih i v c hv hc n _ (hn c (List.mem_of_getElem? hc)) hι
  | ptr ι id off g h => intro n ι' hn hι; cases hn with | ptr _ _ hlt => exact .ptr _ _ _ _ (hι _ _ hlt h)
  | iptr ι b o cs vals hF' hv hr ih => intro n ι' _ _; exact .iptr _ _ _ _ vals hF' hv hr
  | nilp => intro n ι' _ _; exact .nilp _
  | fn ι f fs cs fs' cs' hl hl' _ _ ih ih' =>
    intro n ι' hn hι
    cases hn with | fn _ _ _ h1 h2 =>
    exact .fn _ _ _ _ _ _ hl hl' (fun i v c hv hc => ih i v c hv hc n _ (h1 c (List.mem_of_getElem? hc)) hι) (fun i v c hv hc => ih' i v c hv hc n _ (h2 c (List.mem_of_getElem? hc)) hι)
  | nilf => intro n ι' _ _; exact .nilf _
  | iface ι t v a _ ih => intro n ι' hn hι; cases hn with | iface _ _ h => exact .iface _ _ _ _ (ih n _ h hι)
  | nili => intro n ι' _ _; exact .nili _
  | glob => intro n ι' _ _; exact .glob ..
  | mapv ι id g h => intro n ι' hn hι; cases hn with | mapv _ hlt => exact .mapv _ _ _ (hι _ _ hlt h)
  | cond0 => intro n ι' _ _; exact .cond0 ..
  | cond1 ι v a _ ih => intro n ι' hn hι; cases hn with | cond _ _ h => exact .cond1 _ _ _ (ih n _ h hι)
abbrev Pu (a : AV) : Prop := NoId 0 a
theorem Rep.pure {F : Nat → Nat → Prop} {w : World} {ι : Nat → Option Nat} {v : Value} {a : AV} (h : Rep F w ι v a) (hp : Pu a) (ι') : Rep F w ι' v a :=
  h.noId 0 ι' hp (fun _ _ h => absurd h (by omega))
def AV.one : AV → Bool
  | .any | .agg _ | .tup _ | .cond _ _ => false
  | _ => true
theorem Rep.one {F : Nat → Nat → Prop} {w : World} {ι : Nat → Option Nat} {v : Value} {a : AV} (h : Rep F w ι v a) (ho : a.one = true) : v.oneCell' = true := by
  cases h <;> first | rfl | (simp [AV.one] at ho)
end Go.Pm
namespace Go.Pm
open Go Go.RowKit
set_option linter.unusedSimpArgs false
set_option linter.unusedVariables false
inductive SObj where
  | map (es : List (AV × AV))
  | mapP (es : List (AV × AV))
  | iter (s : Bytes) (pos : Nat)
  | bld (T e : TypeId) (s : Bytes)
inductive AObj where
  | cells (t : TypeId) (cs : List AV) (tg : List (Nat × Nat))
  | mp (x : SObj)
  | dead
structure St where
  s : Nat → AV
  g : Nat → Option Nat
  H : List AObj
  k : List Nat
structure Env where
  W0 : World
  GB : Nat
structure Base where
  F : Nat → Nat → Prop
  O : Nat → Option (Nat ⊕ Nat)
  w : World
  nt : Nat
  ι : Nat → Option Nat := fun _ => none
  κ : Nat → Option (Nat × Nat × Nat) := fun _ => none
  nb : Nat := 0
  nk : Nat := 0
  df : List Deferred := []
structure Good (E : Env) (B : Base) (G : Gh) (w : World) : Prop where
  fin : ∀ b o, G.F b o → b < w.heap.size
  own : ∀ b i, G.O b = some i → b < w.heap.size ∧ E.GB ≤ b
  size : B.w.heap.size ≤ w.heap.size
  old : ∀ b, b < B.w.heap.size → B.O b = none → G.O b = none ∧ w.heap[b]? = B.w.heap[b]?
  keep : ∀ b o, B.F b o → G.F b o ∧ w.cell? ⟨b, o, none⟩ = B.w.cell? ⟨b, o, none⟩
  new : ∀ b o, G.F b o → B.F b o ∨ B.w.heap.size ≤ b ∨ B.O b ≠ none
  os : w.os = B.w.os
  tape : w.tape = B.w.tape
  output : w.output = B.w.output
  glob : ∀ b, b < E.GB → w.heap[b]? = E.W0.heap[b]?
  gb : E.GB ≤ w.heap.size
  ids : ∀ i g, B.ι i = some g → i < B.nb ∧ G.ι i = some g
  toks : ∀ i r, B.κ i = some r → i < B.nk ∧ G.κ i = some r
  grow : ∀ g, Grows B.w w g
def AV.isList : AV → Bool
  | .list _ _ => true
  | _ => false
def AV.isAgg : AV → Bool
  | .agg _ => true
  | _ => false
def LTag (G : Gh) (v : Value) (a : AV) (i : Nat) : Prop := ∃ sz xs n cap g lo hi ad, a = .list sz xs ∧ v = .slice ad n cap ∧ G.κ i = some (g, lo, hi) ∧ n = xs.length ∧ n ≤ cap ∧ cap ≤ maxLen ∧
      (n = cap ∨ (lo < hi ∧ ∃ o, ad = some ⟨g, o, none⟩ ∧ lo = o + n * sz ∧ hi = o + cap * sz))
def dg (m j : Nat) : Nat := m / 64 ^ j % 64
theorem dg_zero (m : Nat) : dg m 0 = m % 64 := by simp [dg]
theorem dg_succ (m j : Nat) : dg m (j + 1) = dg (m / 64) j := by
  unfold dg
  rw [Nat.pow_succ, Nat.mul_comm, Nat.div_div_eq_div_mul]
theorem dg_cons {d r : Nat} (hd : d < 64) (j : Nat) : dg (d + 64 * r) j = match j with | 0 => d | j + 1 => dg r j := by
  cases j with
  | zero => rw [dg_zero]; simp only; omega
  | succ j => rw [dg_succ, show (d + 64 * r) / 64 = r by omega]
def encT (tg : List (Nat × Nat)) : Nat → Nat → Nat
  | _, 0 => 0
  | off, n + 1 => (match tg.lookup off with | some t => bif Nat.blt t 62 then t + 2 else 0 | none => 0) + 64 * encT tg (off + 1) n
def aggT (tg : List (Nat × Nat)) (off n : Nat) : Option Nat := match tg with
  | [] => none
  | _ => some (encT tg off n)
theorem encT_dg (tg : List (Nat × Nat)) : ∀ (n off j : Nat), dg (encT tg off n) j ≠ 1 ∧ ∀ t, dg (encT tg off n) j = t + 2 → tg.lookup (off + j) = some t
  | 0, off, j => by simp [encT, dg]
  | n + 1, off, j => by
    have hd : (match tg.lookup off with | some t => bif Nat.blt t 62 then t + 2 else 0 | none => 0) < 64 := by
      split
      · rename_i t _
        cases hb : Nat.blt t 62 with
        | true => rw [cond_true]; exact Nat.add_lt_add_right (show t < 62 by simpa [Nat.blt_eq] using hb) 2
        | false => rw [cond_false]; omega
      · omega
    unfold encT
    rw [dg_cons hd]
    cases j with
    | zero =>
      simp only [Nat.add_zero]
      split
      · rename_i t ht
        cases hb : Nat.blt t 62 with
        | true => rw [cond_true]; exact ⟨by omega, fun t' h => by rw [ht, show t = t' by omega]⟩
        | false => rw [cond_false]; exact ⟨by omega, fun t' h => by omega⟩
      · exact ⟨by omega, fun t' h => by omega⟩
    | succ j =>
      have := encT_dg tg n (off + 1) j
      rw [show off + 1 + j = off + (j + 1) by omega] at this
      exact this
def ATag (G : Gh) (v : Value) (a : AV) (i : Nat) : Prop := ∃ cs, a = .agg cs ∧ ∀ (j : Nat), (∀ (sz : Nat), dg i j = 1 → cs[j]? = some (.list sz []) → v.cells[j]? = some (.slice none 0 0)) ∧
      ∀ (t : Nat) (c : AV) (u : Value), dg i j = t + 2 → cs[j]? = some c → v.cells[j]? = some u → LTag G u c t
def TagOk (G : Gh) (v : Value) (a : AV) : Option Nat → Prop
  | none => True
  | some i => LTag G v a i ∨ ATag G v a i
theorem aggT_ok {G : Gh} {v : Value} {a : AV} {tg : List (Nat × Nat)} {off n : Nat} (h : TagOk G v a (some (encT tg off n))) : TagOk G v a (aggT tg off n) := by
  cases tg with
  | nil => trivial
  | cons x l => exact h
theorem agg_noOne {F : Nat → Nat → Prop} {w : World} {ι : Nat → Option Nat} {v : Value} {cs : List AV} (h : Rep F w ι v (.agg cs)) (ho : v.oneCell' = true) : False := by
  cases h with
  | agg => cases ho
theorem LTag.mono {G G' : Gh} {v : Value} {a : AV} {i i' : Nat} (h : LTag G v a i) (hκ : ∀ r, G.κ i = some r → G'.κ i' = some r) : LTag G' v a i' := by
  obtain ⟨sz, xs, n, cap, g, lo, hi, ad, h1, h2, h3, h4⟩ := h
  exact ⟨sz, xs, n, cap, g, lo, hi, ad, h1, h2, hκ _ h3, h4⟩
theorem ATag.mono {G G' : Gh} {v : Value} {a : AV} {i : Nat} (h : ATag G v a i) (hκ : ∀ j t r, dg i j = t + 2 → G.κ t = some r → G'.κ t = some r) : ATag G' v a i := by
  obtain ⟨cs, h1, h2⟩ := h
  exact ⟨cs, h1, fun j => ⟨(h2 j).1, fun t c u h3 h4 h5 => ((h2 j).2 t c u h3 h4 h5).mono fun r => hκ j t r h3⟩⟩
theorem TagOk.list {G : Gh} {v : Value} {a : AV} {i : Nat} (h : TagOk G v a (some i)) (ha : ∀ cs, a ≠ .agg cs) : ∃ sz xs n cap g lo hi ad, a = .list sz xs ∧ v = .slice ad n cap ∧ G.κ i = some (g, lo, hi) ∧ n = xs.length ∧ n ≤ cap ∧ cap ≤ maxLen ∧
      (n = cap ∨ (lo < hi ∧ ∃ o, ad = some ⟨g, o, none⟩ ∧ lo = o + n * sz ∧ hi = o + cap * sz)) := h.resolve_right fun ⟨cs, e, _⟩ => ha cs e
def RepSlot (G : Gh) (w : World) (v : Value) (a : AV) (tag : Option Nat) : Prop := Rep G.F w G.ι v a ∧ TagOk G v a tag
def inFz (fz : Nat × Nat) (i : Nat) : Prop := fz.1 ≤ i ∧ i < fz.2
def MapAt (F : Nat → Nat → Prop) (w : World) (g : Nat) (es : List (AV × AV)) : Prop :=
  ∃ arr clock, w.heap[g]? = some (.map arr clock) ∧ arr.size = es.length ∧ ∀ (i : Nat) (e : MapEntry) (p : AV × AV), arr[i]? = some e → es[i]? = some p → Rep F w (fun _ => none) e.key p.1 ∧ Rep F w (fun _ => none) e.val p.2
theorem MapAt.keep {F F' : Nat → Nat → Prop} {w w' : World} {g : Nat} {es : List (AV × AV)} (h : MapAt F w g es) (hF : ∀ b o, F b o → F' b o) (hw : ∀ b o, F b o → w'.cell? ⟨b, o, none⟩ = w.cell? ⟨b, o, none⟩)
    (hg : w'.heap[g]? = w.heap[g]?) : MapAt F' w' g es := by
  obtain ⟨arr, clock, h1, h2, h3⟩ := h
  refine ⟨arr, clock, hg.trans h1, h2, fun i e p he hp => ?_⟩
  obtain ⟨r1, r2⟩ := h3 i e p he hp
  exact ⟨r1.mono hF hw _ (fun _ _ h => by cases h), r2.mono hF hw _ (fun _ _ h => by cases h)⟩
def BldIn (F : Nat → Nat → Prop) (O : Nat → Option (Nat ⊕ Nat)) (id : Nat) (w : World) (T e : TypeId) (g : Nat) (s : Bytes) : Prop :=
  ∃ v, (∃ p, w.heap[g]? = some (.cells #[p, v] T (0, 0)) ∧ (p = .pointer none ∨ p = .pointer (some ⟨g, 0, none⟩))) ∧ w.ownsRow 0 e 1 v s.length (s.map fun b => Value.int .u8 b.toNat) ∧
    ∀ k, v.ownBlock = some k → O k = some (.inl id) ∧ ∀ x, ¬ F k x
def SpAt (F : Nat → Nat → Prop) (O : Nat → Option (Nat ⊕ Nat)) (id : Nat) (w : World) (g : Nat) : SObj → Prop
  | .map es => MapAt F w g es
  | .mapP es => ∃ es', es'.Perm es ∧ MapAt F w g es'
  | .iter s pos => s.length ≤ maxLen ∧ w.heap[g]? = some (.stringIter ⟨s.toArray⟩ pos)
  | .bld T e s => BldIn F O id w T e g s
theorem SpAt.keep {F F' : Nat → Nat → Prop} {O O' : Nat → Option (Nat ⊕ Nat)} {id id' : Nat} {w w' : World} {g : Nat} {x : SObj} (h : SpAt F O id w g x) (hF : ∀ b o, F b o → F' b o) (hw : ∀ b o, F b o → w'.cell? ⟨b, o, none⟩ = w.cell? ⟨b, o, none⟩)
    (hO : ∀ k, O k = some (.inl id) → O' k = some (.inl id') ∧ w'.heap[k]? = w.heap[k]? ∧ ∀ x, F' k x → F k x) (hg : w'.heap[g]? = w.heap[g]?) : SpAt F' O' id' w' g x := by
  cases x with
  | map es => exact MapAt.keep h hF hw hg
  | mapP es => obtain ⟨es', hp, h⟩ := h; exact ⟨es', hp, MapAt.keep h hF hw hg⟩
  | iter s pos => exact ⟨h.1, hg.trans h.2⟩
  | bld T e s =>
    obtain ⟨v, ⟨p, h1, h2⟩, h3, h4⟩ := h
    refine ⟨v, ⟨p, hg.trans h1, h2⟩, ⟨h3.1, ?_⟩, fun k hk => ⟨(hO k (h4 k hk).1).1, fun x hx => (h4 k hk).2 x ((hO k (h4 k hk).1).2.2 x hx)⟩⟩
    rcases h3.2 with hn | ⟨g2, cap, cur, rfl, hb, hgg, rest⟩
    · exact .inl hn
    · exact .inr ⟨g2, cap, cur, rfl, hb, ((hO g2 (h4 g2 rfl).1).2.1).trans hgg, rest⟩
def RepObj (G : Gh) (w : World) (id : Nat) : Option AObj → Prop
  | none => G.ι id = none
  | some .dead => True
  | some (.mp x) => ∃ g, G.ι id = some g ∧ G.O g = some (.inl id) ∧ (∀ x, ¬ G.F g x) ∧ SpAt G.F G.O id w g x
  | some (.cells t cs tg) => (cs = [] ∧ G.ι id = none) ∨ ∃ g, G.ι id = some g ∧ G.O g = some (.inl id) ∧ (∀ x, ¬ G.F g x) ∧ ∃ vals fz, w.heap[g]? = some (.cells vals t fz) ∧
      (∀ i, i < vals.size → ¬ inFz fz i) ∧ cs.length ≤ vals.size ∧ ∀ (j : Nat) (c : AV), cs[j]? = some c → ∃ v, vals[j]? = some v ∧ v.oneCell' = true ∧ RepSlot G w v c (tg.lookup j)
def RepTok (G : Gh) (w : World) (i : Nat) : Option Nat → Prop
  | none => G.κ i = none
  | some 0 => True
  | some (_ + 2) => ∃ g lo, G.κ i = some (g, lo, lo)
  | some 1 => ∃ g lo hi, G.κ i = some (g, lo, hi) ∧ (lo < hi → G.O g = some (.inr i) ∧ (∀ x, lo ≤ x → ¬ G.F g x) ∧ ∃ vals t fz, w.heap[g]? = some (.cells vals t fz) ∧ hi ≤ vals.size ∧ ∀ x, lo ≤ x → x < hi → ¬ inFz fz x)
inductive Loc where
  | slot (t : Nat)
  | obj (i : Nat)
  | tok (i : Nat)
  deriving DecidableEq
def RepL (G : Gh) (w : World) (a : Act) : Loc → St → Prop
  | .slot t, st => RepSlot G w (a.tmps.getD t undef) (st.s t) (st.g t)
  | .obj i, st => RepObj G w i st.H[i]?
  | .tok i, st => RepTok G w i st.k[i]?
def SameAt : Loc → St → St → Prop
  | .slot t, s, s' => s.s t = s'.s t ∧ s.g t = s'.g t
  | .obj i, s, s' => s.H[i]? = s'.H[i]?
  | .tok i, s, s' => s.k[i]? = s'.k[i]?
theorem SameAt.refl (l : Loc) (s : St) : SameAt l s s := by cases l <;> simp [SameAt]
theorem SameAt.symm {l : Loc} {s s' : St} (h : SameAt l s s') : SameAt l s' s := by
  cases l <;> simp only [SameAt] at * <;> first | exact ⟨h.1.symm, h.2.symm⟩ | exact h.symm
theorem SameAt.trans {l : Loc} {s s' s'' : St} (h : SameAt l s s') (h' : SameAt l s' s'') : SameAt l s s'' := by
  cases l <;> simp only [SameAt] at * <;> first | exact ⟨h.1.trans h'.1, h.2.trans h'.2⟩ | exact h.trans h'
theorem RepL.congr {G : Gh} {w : World} {a : Act} {l : Loc} {s s' : St} (h : RepL G w a l s) (hs : SameAt l s s') : RepL G w a l s' := by
  cases l <;> simp only [SameAt, RepL] at *
  · rw [← hs.1, ← hs.2]; exact h
  · rw [← hs]; exact h
  · rw [← hs]; exact h
structure Ext (G : Gh) (w0 : World) (G' : Gh) (w' : World) : Prop where
  F : ∀ b o, G.F b o → G'.F b o
  ι : ∀ i g, G.ι i = some g → G'.ι i = some g
  κ : ∀ i r, G.κ i = some r → G'.κ i = some r
  w : ∀ b o, G.F b o → w'.cell? ⟨b, o, none⟩ = w0.cell? ⟨b, o, none⟩
  gr : ∀ g, Grows w0 w' g
theorem Ext.refl (G : Gh) (w : World) : Ext G w G w := ⟨fun _ _ h => h, fun _ _ h => h, fun _ _ h => h, fun _ _ _ => rfl, fun _ _ h => h⟩
theorem Ext.trans {G G' G'' : Gh} {w w' w'' : World} (h : Ext G w G' w') (h' : Ext G' w' G'' w'') : Ext G w G'' w'' :=
  ⟨fun _ _ x => h'.F _ _ (h.F _ _ x), fun _ _ x => h'.ι _ _ (h.ι _ _ x), fun _ _ x => h'.κ _ _ (h.κ _ _ x), fun _ _ x => (h'.w _ _ (h.F _ _ x)).trans (h.w _ _ x), fun g n x => h'.gr g n (h.gr g n x)⟩
theorem grows_old {w w' : World} (h : ∀ b, b < w.heap.size → w'.heap[b]? = w.heap[b]?) : ∀ g, Grows w w' g := fun g n ⟨vals, t, fz, h1, h2⟩ => ⟨vals, t, fz, (h g (Array.getElem?_eq_some_iff.1 h1).1).trans h1, h2⟩
theorem grows_one {w w' : World} {b : Nat} {vals vals' : Array Value} {t : TypeId} {fz : Nat × Nat} (h : ∀ g, g ≠ b → w'.heap[g]? = w.heap[g]?) (hb : w.heap[b]? = some (.cells vals t fz)) (hb' : w'.heap[b]? = some (.cells vals' t fz)) (hs : vals'.size = vals.size) : ∀ g, Grows w w' g := fun g n ⟨vs, t2, fz2, h1, h2⟩ => by
  by_cases hg : g = b
  · subst hg
    rw [hb] at h1
    cases h1
    exact ⟨vals', t, fz, hb', by omega⟩
  · exact ⟨vs, t2, fz2, (h g hg).trans h1, h2⟩
theorem grows_no {w w' : World} {b : Nat} (h : ∀ g, g ≠ b → w'.heap[g]? = w.heap[g]?) (hb : ∀ vals t fz, w.heap[b]? ≠ some (.cells vals t fz)) : ∀ g, Grows w w' g := fun g n ⟨vs, t2, fz2, h1, h2⟩ => by
  by_cases hg : g = b
  · subst hg
    exact absurd h1 (hb _ _ _)
  · exact ⟨vs, t2, fz2, (h g hg).trans h1, h2⟩
theorem TagOk.ext {G G' : Gh} {w w' : World} {v : Value} {a : AV} {tag : Option Nat} (h : TagOk G v a tag) (hx : Ext G w G' w') : TagOk G' v a tag := by
  cases tag with
  | none => trivial
  | some i =>
    rcases h with ⟨sz, xs, n, cap, g, lo, hi, ad, h1, h2, h3, h4⟩ | h
    · exact .inl ⟨sz, xs, n, cap, g, lo, hi, ad, h1, h2, hx.κ _ _ h3, h4⟩
    · exact .inr (h.mono fun _ _ _ _ => hx.κ _ _)
theorem RepSlot.ext {G G' : Gh} {w w' : World} {v : Value} {a : AV} {tag : Option Nat} (h : RepSlot G w v a tag) (hx : Ext G w G' w') : RepSlot G' w' v a tag :=
  ⟨h.1.mono hx.F hx.w _ fun i g h => ⟨hx.ι i g h, hx.gr g⟩, h.2.ext hx⟩
structure Fr (G : Gh) (w : World) (a : Act) (G' : Gh) (w' : World) (a' : Act) (W : List Loc) : Prop where
  ext : Ext G w G' w'
  slot : ∀ t, .slot t ∉ W → a'.tmps.getD t undef = a.tmps.getD t undef
  obj : ∀ i c, .obj i ∉ W → RepObj G w i c → RepObj G' w' i c
  tok : ∀ i c, .tok i ∉ W → RepTok G w i c → RepTok G' w' i c
  defers : a'.defers = a.defers
theorem Fr.keep {G G' : Gh} {w w' : World} {a a' : Act} {W : List Loc} (h : Fr G w a G' w' a' W) {l : Loc} {st : St} (hl : l ∉ W) (hr : RepL G w a l st) : RepL G' w' a' l st := by
  cases l with
  | slot t => simp only [RepL] at *; rw [h.slot t hl]; exact hr.ext h.ext
  | obj i => exact h.obj _ _ hl hr
  | tok i => exact h.tok _ _ hl hr
structure StepFact (E : Env) (P : Program) (ops : Array Oper) (o : Oper) (pre post : St) (N W : List Loc) : Prop where
  same : ∀ l, l ∉ W → SameAt l pre post
  run : ∀ (B : Base) (G : Gh) (w : World) (a : Act), Good E B G w → a.tmps.size = B.nt → (∀ d, o.dst = some d → d < B.nt) → (∀ l, l ∈ N → RepL G w a l pre) →
    ∀ (K : Act → World → Prop) (Q : Exit → Act → World → Prop),
      (∀ G' w' a', Good E B G' w' → a'.tmps.size = B.nt → Fr G w a G' w' a' W → (∀ l, l ∈ W → RepL G' w' a' l post) → K a' w') →
      (if Region.wanted o (yielded ops a.tmps) = true then o.wp P a w K Q else K (a.put o.dst undef) w)
structure Conc (E : Env) (B : Base) (G : Gh) (w : World) (a : Act) (st : St) : Prop where
  good : Good E B G w
  size : a.tmps.size = B.nt
  defers : a.defers = B.df
  rep : ∀ l, RepL G w a l st
theorem Conc.step {E : Env} {B : Base} {G G' : Gh} {w w' : World} {a a' : Act} {pre post : St} {W : List Loc} (h : Conc E B G w a pre) (hg : Good E B G' w') (hsz : a'.tmps.size = B.nt)
    (hf : Fr G w a G' w' a' W) (hW : ∀ l, l ∈ W → RepL G' w' a' l post) (hs : ∀ l, l ∉ W → SameAt l pre post) : Conc E B G' w' a' post :=
  ⟨hg, hsz, hf.defers.trans h.defers, fun l => by
    by_cases hl : l ∈ W
    · exact hW l hl
    · exact (hf.keep hl (h.rep l)).congr (hs l hl)⟩
inductive Chain (E : Env) (P : Program) (ops : Array Oper) : List Oper → St → List (List Loc × List Loc) → St → Prop
  | nil (st) : Chain E P ops [] st [] st
  | cons (o rest st st' st'' N W ft) (h : StepFact E P ops o st st' N W) (hr : Chain E P ops rest st' ft st'') : Chain E P ops (o :: rest) st ((N, W) :: ft) st''
theorem wpOp_of {P : Program} {ops : Array Oper} {Q : Exit → Act → World → Prop} {i : Nat} {o : Oper} (ho : ops[i]? = some o) {K : Act → World → Prop} {a : Act} {w : World}
    (h : if Region.wanted o (yielded ops a.tmps) = true then o.wp P a w K Q else K (a.put o.dst undef) w) : wpOp P ops Q i K a w := by
  unfold wpOp
  simp only [ho]
  split
  · rename_i hw; rw [if_pos hw] at h; exact .inl h
  · rename_i hw; rw [if_neg hw] at h; exact h
def dstsOk (nt : Nat) (ops : Array Oper) : Bool := ops.toList.all fun o => match o.dst with | some d => Nat.blt d nt | none => true
theorem dstsOk.at {nt : Nat} {ops : Array Oper} (h : dstsOk nt ops = true) {i : Nat} {o : Oper} (ho : ops[i]? = some o) : ∀ d, o.dst = some d → d < nt := by
  intro d hd
  simp only [dstsOk, List.all_eq_true] at h
  have := h o (by rw [← Array.getElem?_toList] at ho; exact List.mem_of_getElem? ho)
  rw [hd] at this
  simpa [Nat.blt_eq] using this
theorem chain_text {E : Env} {P : Program} {ops : Array Oper} {Q : Exit → Act → World → Prop} {B : Base} (hd : dstsOk B.nt ops = true) :
    ∀ (l : List Oper) (i : Nat) (st st' : St) (ft : List (List Loc × List Loc)), ops.toList.drop i = l → Chain E P ops l st ft st' →
    ∀ (G : Gh) (w : World) (a : Act), Conc E B G w a st → (∀ G' w' a', Conc E B G' w' a' st' → Q .normal a' w') →
    wpOps P ops Q (List.range' i l.length) a w := by
  intro l
  induction l with
  | nil => intro i st st' ft _ hc G w a hst hQ; cases hc; exact hQ _ _ _ hst
  | cons o rest ih =>
    intro i st st' ft hdr hc G w a hst hQ
    cases hc with
    | cons _ _ _ stm _ N W ft' hf hr =>
      have hi : i < ops.toList.length := by
        rcases Nat.lt_or_ge i ops.toList.length with h | h
        · exact h
        · rw [List.drop_eq_nil_of_le h] at hdr; cases hdr
      rw [List.drop_eq_getElem_cons hi] at hdr
      injection hdr with h1 h2
      have ho : ops[i]? = some o := by rw [← Array.getElem?_toList, List.getElem?_eq_getElem hi, h1]
      simp only [List.length_cons, List.range'_succ]
      rw [wpOps_cons]
      refine wpOp_of ho (hf.run B G w a hst.good hst.size (dstsOk.at hd ho) (fun l _ => hst.rep l) _ _ fun G' w' a' hg hsz hfr hW => ?_)
      exact ih (i + 1) _ _ _ h2 hr G' w' a' (hst.step hg hsz hfr hW hf.same) hQ
def ancs (ops : List Oper) : List Nat :=
  ops.foldl (fun acc o => acc ++ [o.after.toList.foldl (fun s e => if Region.binds .any e then s ||| 2 ^ e.on ||| acc.getD e.on 0 else s) 0]) []
def clash (x y : List Loc × List Loc) : Bool := x.2.any (fun l => y.1.contains l || y.2.contains l) || y.2.any (fun l => x.1.contains l)
def ordOk (ops : List Oper) (ft : List (List Loc × List Loc)) : Bool :=
  let an := ancs ops
  (List.range ft.length).all fun j => (List.range j).all fun i => !clash (ft.getD i ([], [])) (ft.getD j ([], [])) || (an.getD j 0).testBit i
theorem fold_bits (acc : List Nat) (k : Nat) : ∀ (l : List Edge) (s : Nat),
    (l.foldl (fun s e => if Region.binds .any e then s ||| 2 ^ e.on ||| acc.getD e.on 0 else s) s).testBit k = true →
      s.testBit k = true ∨ ∃ e, e ∈ l ∧ Region.binds .any e = true ∧ (e.on = k ∨ (acc.getD e.on 0).testBit k = true) := by
  intro l
  induction l with
  | nil => intro s h; exact .inl h
  | cons e l ih =>
    intro s h
    rw [List.foldl_cons] at h
    rcases ih _ h with h | ⟨e', he, hb, hk⟩
    · by_cases hb : Region.binds .any e = true
      · rw [if_pos hb, Nat.testBit_or, Nat.testBit_or, Bool.or_eq_true, Bool.or_eq_true] at h
        rcases h with (h | h) | h
        · exact .inl h
        · rw [Nat.testBit_two_pow] at h
          exact .inr ⟨e, List.mem_cons_self .., hb, .inl (by simpa using h)⟩
        · exact .inr ⟨e, List.mem_cons_self .., hb, .inr h⟩
      · rw [if_neg hb] at h; exact .inl h
    · exact .inr ⟨e', List.mem_cons_of_mem _ he, hb, hk⟩
def Closed (ops : List Oper) (X : Nat → Prop) : Prop := ∀ (i : Nat) (o : Oper), ops[i]? = some o → X i → ∀ e, e ∈ o.after → Region.binds .any e = true → X e.on
theorem ancs_spec (X : Nat → Prop) : ∀ (ops : List Oper) (j k : Nat) (o : Oper), Closed ops X → ops[j]? = some o → (∀ e, e ∈ o.after → Region.binds .any e = true → X e.on) →
    ((ancs ops).getD j 0).testBit k = true → X k := by
  have key : ∀ (pre ops : List Oper) (acc : List Nat), acc.length = pre.length →
      (∀ (j k : Nat) (o : Oper), pre[j]? = some o → (acc.getD j 0).testBit k = true → (∀ (i : Nat) (o : Oper), (pre ++ ops)[i]? = some o → X i → ∀ e, e ∈ o.after → Region.binds .any e = true → X e.on) → (∀ e, e ∈ o.after → Region.binds .any e = true → X e.on) → X k) →
      ∀ (j k : Nat) (o : Oper), (pre ++ ops)[j]? = some o →
        ((ops.foldl (fun acc o => acc ++ [o.after.toList.foldl (fun s e => if Region.binds .any e then s ||| 2 ^ e.on ||| acc.getD e.on 0 else s) 0]) acc).getD j 0).testBit k = true →
        (∀ (i : Nat) (o : Oper), (pre ++ ops)[i]? = some o → X i → ∀ e, e ∈ o.after → Region.binds .any e = true → X e.on) → (∀ e, e ∈ o.after → Region.binds .any e = true → X e.on) → X k := by
    intro pre ops
    induction ops generalizing pre with
    | nil => intro acc _ h j k o ho hb hc he; exact h j k o (by simpa using ho) hb hc he
    | cons x rest ih =>
      intro acc hlen h j k o ho hb hc he
      rw [List.foldl_cons] at hb
      have happ : pre ++ x :: rest = (pre ++ [x]) ++ rest := by simp
      rw [happ] at ho hc
      refine ih (pre ++ [x]) _ (by simp [hlen]) ?_ j k o ho hb hc he
      intro j' k' o' ho' hb' hc' he'
      rw [← happ] at hc'
      by_cases hj : j' < pre.length
      · rw [List.getElem?_append_left hj] at ho'
        rw [List.getD_eq_getElem?_getD, List.getElem?_append_left (by omega), ← List.getD_eq_getElem?_getD] at hb'
        exact h j' k' o' ho' hb' hc' he'
      · have hj2 : j' = pre.length := by
          have := (List.getElem?_eq_some_iff.1 ho').1
          simp at this; omega
        subst hj2
        rw [List.getElem?_append_right (Nat.le_refl _)] at ho'
        simp only [Nat.sub_self, List.getElem?_cons_zero, Option.some.injEq] at ho'
        subst ho'
        rw [List.getD_eq_getElem?_getD, List.getElem?_append_right (by omega)] at hb'
        simp only [hlen, Nat.sub_self, List.getElem?_cons_zero, Option.getD_some] at hb'
        rcases fold_bits acc k' _ _ hb' with h0 | ⟨e, hem, hbe, hk⟩
        · simp at h0
        · have hXe := he' e (by simpa using hem) hbe
          rcases hk with hk | hk
          · rw [← hk]; exact hXe
          · have hlt : e.on < acc.length := by
              rcases Nat.lt_or_ge e.on acc.length with hh | hh
              · exact hh
              · rw [List.getD_eq_getElem?_getD, List.getElem?_eq_none hh] at hk; simp at hk
            have hpe : pre[e.on]? = some (pre[e.on]'(by omega)) := List.getElem?_eq_getElem (by omega)
            refine h e.on k' _ hpe hk hc' ?_
            exact hc' e.on _ (by rw [List.getElem?_append_left (by omega)]; exact hpe) hXe
  intro ops j k o hc ho he hb
  exact key [] ops [] rfl (by simp) j k o (by simpa using ho) (by simpa [ancs] using hb) (by simpa [Closed] using hc) he
end Go.Pm
namespace Go.Pm
open Go Go.RowKit
set_option linter.unusedSimpArgs false
set_option linter.unusedVariables false
theorem Chain.seq {E : Env} {P : Program} {ops : Array Oper} {l : List Oper} {st st' : St} {ft : List (List Loc × List Loc)} (h : Chain E P ops l st ft st') :
    ∃ S : Nat → St, S 0 = st ∧ S l.length = st' ∧ ft.length = l.length ∧ ∀ (i : Nat) (o : Oper), l[i]? = some o → StepFact E P ops o (S i) (S (i + 1)) (ft.getD i ([], [])).1 (ft.getD i ([], [])).2 := by
  induction h with
  | nil st => exact ⟨fun _ => st, rfl, rfl, rfl, fun i o h => by simp at h⟩
  | cons o rest st stm st'' N W ft hf _ ih =>
    obtain ⟨S, h0, hn, hl, hS⟩ := ih
    refine ⟨fun i => match i with | 0 => st | i + 1 => S i, rfl, by simpa using hn, by simpa using hl, fun i o' ho => ?_⟩
    cases i with
    | zero =>
      simp only [List.getElem?_cons_zero, Option.some.injEq] at ho
      subst ho
      simp only [List.getD_cons_zero, h0]
      exact hf
    | succ i =>
      simp only [List.getElem?_cons_succ] at ho
      simpa using hS i o' ho
def lastW (X : Nat → Bool) (W : Nat → List Loc) (l : Loc) : Nat → Nat
  | 0 => 0
  | n + 1 => if X n = true ∧ l ∈ W n then n + 1 else lastW X W l n
theorem lastW_spec (X : Nat → Bool) (W : Nat → List Loc) (l : Loc) : ∀ n, lastW X W l n ≤ n ∧ (∀ k, lastW X W l n ≤ k → k < n → ¬ (X k = true ∧ l ∈ W k)) ∧
    (lastW X W l n = 0 ∨ ∃ k, lastW X W l n = k + 1 ∧ X k = true ∧ l ∈ W k) := by
  intro n
  induction n with
  | zero => exact ⟨Nat.le_refl _, fun k _ h => absurd h (by omega), .inl rfl⟩
  | succ n ih =>
    unfold lastW
    split
    · rename_i h
      exact ⟨Nat.le_refl _, fun k h1 h2 => absurd h2 (by omega), .inr ⟨n, rfl, h.1, h.2⟩⟩
    · rename_i h
      refine ⟨by omega, fun k h1 h2 => ?_, ih.2.2⟩
      rcases Nat.lt_or_ge k n with hk | hk
      · exact ih.2.1 k h1 hk
      · have : k = n := by omega
        subst this; exact h
theorem same_run {S : Nat → St} {W : Nat → List Loc} {n : Nat} (hs : ∀ i, i < n → ∀ l, l ∉ W i → SameAt l (S i) (S (i + 1))) (l : Loc) (m : Nat) :
    ∀ i, m ≤ i → i ≤ n → (∀ k, m ≤ k → k < i → l ∉ W k) → SameAt l (S m) (S i) := by
  intro i
  induction i with
  | zero => intro h _ _; have : m = 0 := by omega
            subst this; exact .refl _ _
  | succ i ih =>
    intro h hn hk
    rcases Nat.lt_or_ge i m with hlt | hge
    · have : m = i + 1 := by omega
      subst this; exact .refl _ _
    · exact (ih hge (by omega) fun k h1 h2 => hk k h1 (by omega)).trans (hs i (by omega) l (hk i hge (by omega)))
def edgesOk (ops : List Oper) : Bool := ops.zipIdx.all fun x => x.1.after.toList.all fun e => !Region.binds .any e || Nat.blt e.on x.2
theorem edgesOk.at {ops : List Oper} (h : edgesOk ops = true) {i : Nat} {o : Oper} (ho : ops[i]? = some o) {e : Edge} (he : e ∈ o.after) (hb : Region.binds .any e = true) : e.on < i := by
  simp only [edgesOk, List.all_eq_true] at h
  have h1 := h (o, i) (by rw [List.mem_zipIdx_iff_getElem?]; exact ho) e (by simpa using he)
  simpa [hb, Nat.blt_eq] using h1
theorem clash_false {x y : List Loc × List Loc} (h : clash x y = false) : (∀ l, l ∈ x.2 → l ∉ y.1 ∧ l ∉ y.2) ∧ (∀ l, l ∈ y.2 → l ∉ x.1) := by
  simp only [clash, Bool.or_eq_false_iff, List.any_eq_false, List.contains_iff_mem] at h
  exact ⟨fun l hl => by simpa using h.1 l hl, fun l hl => by simpa using h.2 l hl⟩
theorem ordOk.at {ops : List Oper} {ft : List (List Loc × List Loc)} (h : ordOk ops ft = true) {i j : Nat} (hij : i < j) (hj : j < ft.length) :
    clash (ft.getD i ([], [])) (ft.getD j ([], [])) = false ∨ ((ancs ops).getD j 0).testBit i = true := by
  simp only [ordOk, List.all_eq_true, List.mem_range] at h
  have := h j hj i hij
  simpa using this
theorem ready_nil {ops : Array Oper} (he : edgesOk ops.toList = true) {listed : Array Bool} (hsz : listed.size = ops.size) (hr : Region.ready .any ops listed = []) :
    ∀ i, i < ops.size → listed.getD i true = true := by
  intro i
  induction i using Nat.strongRecOn with
  | _ i ih =>
    intro hi
    cases hc : listed.getD i true with
    | true => rfl
    | false =>
      have : i ∈ Region.ready .any ops listed := by
        rw [mem_ready]
        refine ⟨hc, ops[i], Array.getElem?_eq_getElem hi, fun e hem hb => ?_⟩
        have hlt := edgesOk.at he (o := ops[i]) (i := i) (by rw [Array.getElem?_toList]; exact Array.getElem?_eq_getElem hi) hem hb
        have h1 := ih e.on hlt (by omega)
        rw [Array.getD_eq_getD_getElem?] at h1 ⊢
        rw [Array.getElem?_eq_getElem (by omega)] at h1 ⊢
        simpa using h1
      rw [hr] at this
      cases this
theorem getD_cong {listed : Array Bool} {i : Nat} (h : i < listed.size) (x y : Bool) : listed.getD i x = listed.getD i y := by
  rw [Array.getD_eq_getD_getElem?, Array.getD_eq_getD_getElem?, Array.getElem?_eq_getElem h]; rfl
theorem chain_draw {E : Env} {P : Program} {ops : Array Oper} {Q : Exit → Act → World → Prop} {B : Base} (hd : dstsOk B.nt ops = true) (he : edgesOk ops.toList = true)
    {S : Nat → St} {ft : List (List Loc × List Loc)} (hl : ft.length = ops.size)
    (hS : ∀ (i : Nat) (o : Oper), ops[i]? = some o → StepFact E P ops o (S i) (S (i + 1)) (ft.getD i ([], [])).1 (ft.getD i ([], [])).2) (hord : ordOk ops.toList ft = true)
    (hQ : ∀ G w a, Conc E B G w a (S ops.size) → Q .normal a w) :
    ∀ (fuel : Nat) (listed : Array Bool) (G : Gh) (w : World) (a : Act), listed.size = ops.size → listed.toList.count false = fuel →
      Closed ops.toList (fun k => listed.getD k false = true) → Good E B G w → a.tmps.size = B.nt → a.defers = B.df →
      (∀ l, RepL G w a l (S (lastW (fun k => listed.getD k false) (fun k => (ft.getD k ([], [])).2) l ops.size))) → wpAny P .any ops Q fuel listed a w := by
  have hsame : ∀ i, i < ops.size → ∀ l, l ∉ (ft.getD i ([], [])).2 → SameAt l (S i) (S (i + 1)) := fun i hi l hlw =>
    (hS i ops[i] (Array.getElem?_eq_getElem hi)).same l hlw
  have hdone : ∀ (listed : Array Bool) (G : Gh) (w : World) (a : Act), listed.size = ops.size → Good E B G w → a.tmps.size = B.nt → a.defers = B.df → Region.ready .any ops listed = [] →
      (∀ l, RepL G w a l (S (lastW (fun k => listed.getD k false) (fun k => (ft.getD k ([], [])).2) l ops.size))) → Q .normal a w := by
    intro listed G w a hsz hg has hdf hr hrep
    refine hQ G w a ⟨hg, has, hdf, fun l => (hrep l).congr ?_⟩
    have hsp := lastW_spec (fun k => listed.getD k false) (fun k => (ft.getD k ([], [])).2) l ops.size
    refine same_run (W := fun k => (ft.getD k ([], [])).2) hsame l _ _ hsp.1 (Nat.le_refl _) fun k h1 h2 h3 => hsp.2.1 k h1 h2 ⟨?_, h3⟩
    have := ready_nil he hsz hr k h2
    show listed.getD k false = true
    rw [getD_cong (by omega) false true]; exact this
  intro fuel
  induction fuel with
  | zero =>
    intro listed G w a hsz hcnt hcl hg has hdf hrep
    have hr : Region.ready .any ops listed = [] := by
      rw [List.eq_nil_iff_forall_not_mem]
      intro i hi
      rw [mem_ready] at hi
      obtain ⟨h0, o, ho, _⟩ := hi
      have hilt : i < listed.size := by rw [hsz]; exact (Array.getElem?_eq_some_iff.1 ho).1
      rw [List.count_eq_zero] at hcnt
      apply hcnt
      rw [Array.getD_eq_getD_getElem?, Array.getElem?_eq_getElem hilt] at h0
      simp only [Option.getD_some] at h0
      rw [← h0]
      simp
    exact ⟨hr, hdone listed G w a hsz hg has hdf hr hrep⟩
  | succ fuel ih =>
    intro listed G w a hsz hcnt hcl hg has hdf hrep
    refine ⟨fun hr => hdone listed G w a hsz hg has hdf hr hrep, fun i hi => ?_⟩
    rw [mem_ready] at hi
    obtain ⟨h0, o, ho, hedge⟩ := hi
    have hio : i < ops.size := (Array.getElem?_eq_some_iff.1 ho).1
    have hif : listed.getD i false = false := by rw [getD_cong (by omega) false true]; exact h0
    have hol : ops.toList[i]? = some o := by rw [Array.getElem?_toList]; exact ho
    have hf := hS i o ho
    -- what touches the same place is ordered
    have hordP : ∀ k, k < ops.size → k ≠ i → ∀ l, l ∈ (ft.getD k ([], [])).2 → (l ∈ (ft.getD i ([], [])).1 ∨ l ∈ (ft.getD i ([], [])).2) →
        (k < i → listed.getD k false = true) ∧ (i < k → listed.getD k false = false) := by
      intro k hk hki l hlk hli
      refine ⟨fun hlt => ?_, fun hlt => ?_⟩
      · rcases ordOk.at hord hlt (by omega) with hc | hb
        · have := (clash_false hc).1 l hlk
          rcases hli with h | h
          · exact absurd h this.1
          · exact absurd h this.2
        · exact ancs_spec (fun k => listed.getD k false = true) ops.toList i k o hcl hol (fun e hem hbd => hedge e hem hbd) hb
      · cases hc : listed.getD k false with
        | false => rfl
        | true =>
          exfalso
          rcases ordOk.at hord hlt (by omega) with hc' | hb
          · rcases hli with h | h
            · exact (clash_false hc').2 l hlk h
            · exact ((clash_false hc').1 l h).2 hlk
          · have hok : ops.toList[k]? = some ops[k] := by rw [Array.getElem?_toList]; exact Array.getElem?_eq_getElem hk
            have := ancs_spec (fun k => listed.getD k false = true) ops.toList k i _ hcl hok (fun e hem hbd => hcl k _ hok hc e hem hbd) hb
            have h1 : listed.getD i false = true := this
            rw [hif] at h1; cases h1
    have hN : ∀ l, l ∈ (ft.getD i ([], [])).1 → RepL G w a l (S i) := by
      intro l hl'
      refine (hrep l).congr ?_
      have hsp := lastW_spec (fun k => listed.getD k false) (fun k => (ft.getD k ([], [])).2) l ops.size
      refine same_run (W := fun k => (ft.getD k ([], [])).2) hsame l _ i ?_ (by omega) fun k h1 h2 h3 => ?_
      · rcases hsp.2.2 with h | ⟨k, hk, hx, hw⟩
        · omega
        · rw [hk]
          rcases Nat.lt_trichotomy k i with h | h | h
          · omega
          · subst h; have hx' : listed.getD k false = true := hx
            rw [hif] at hx'; cases hx'
          · have hkn : k < ops.size := by have := hsp.1; omega
            have := (hordP k hkn (by omega) l hw (.inl hl')).2 h
            have hx' : listed.getD k false = true := hx
            rw [this] at hx'; cases hx'
      · exact hsp.2.1 k h1 (by omega) ⟨(hordP k (by omega) (by omega) l h3 (.inl hl')).1 h2, h3⟩
    refine wpOp_of ho (hf.run B G w a hg has (dstsOk.at hd ho) hN _ _ fun G' w' a' hg' has' hfr hW => ?_)
    have hget : ∀ k, (listed.setIfInBounds i true).getD k false = if k = i then true else listed.getD k false := by
      intro k
      by_cases hk : k = i
      · subst hk
        rw [if_pos rfl, Array.getD_eq_getD_getElem?, Array.getElem?_setIfInBounds_self_of_lt (by omega)]; rfl
      · rw [if_neg hk, getD_set_ne false (Ne.symm hk)]
    refine ih (listed.setIfInBounds i true) G' w' a' (by simpa using hsz) ?_ ?_ hg' has' (hfr.defers.trans hdf) fun l => ?_
    · have hli : i < listed.toList.length := by simp; omega
      have hlf : listed.toList[i] = false := by
        rw [Array.getD_eq_getD_getElem?, Array.getElem?_eq_getElem (by omega)] at hif
        simpa using hif
      rw [Array.toList_setIfInBounds, List.count_set hli, hlf, hcnt]
      simp
    · intro j oj hoj hj e hem hbd
      simp only [hget] at hj ⊢
      by_cases hji : j = i
      · subst hji
        rw [hol] at hoj
        injection hoj with hoj
        subst hoj
        split
        · rfl
        · exact hedge e hem hbd
      · rw [if_neg hji] at hj
        split
        · rfl
        · exact hcl j oj hoj hj e hem hbd
    · -- the places, behind the step
      have hX : (fun k => (listed.setIfInBounds i true).getD k false) = fun k => if k = i then true else listed.getD k false := funext hget
      rw [hX]
      by_cases hl' : l ∈ (ft.getD i ([], [])).2
      · have hlast : lastW (fun k => if k = i then true else listed.getD k false) (fun k => (ft.getD k ([], [])).2) l ops.size = i + 1 := by
          have hsp := lastW_spec (fun k => if k = i then true else listed.getD k false) (fun k => (ft.getD k ([], [])).2) l ops.size
          rcases hsp.2.2 with h | ⟨k, hk, hx, hw⟩
          · exact absurd ⟨by simp, hl'⟩ (hsp.2.1 i (by omega) hio)
          · rw [hk]
            have hkn : k < ops.size := by have := hsp.1; omega
            rcases Nat.lt_trichotomy k i with h | h | h
            · exact absurd ⟨by simp, hl'⟩ (hsp.2.1 i (by omega) hio)
            · rw [h]
            · have := (hordP k hkn (by omega) l hw (.inr hl')).2 h
              simp only [if_neg (show ¬ k = i by omega)] at hx
              rw [this] at hx; cases hx
        rw [hlast]
        exact hW l hl'
      · have hlast : lastW (fun k => if k = i then true else listed.getD k false) (fun k => (ft.getD k ([], [])).2) l ops.size = lastW (fun k => listed.getD k false) (fun k => (ft.getD k ([], [])).2) l ops.size := by
          have : ∀ n, lastW (fun k => if k = i then true else listed.getD k false) (fun k => (ft.getD k ([], [])).2) l n = lastW (fun k => listed.getD k false) (fun k => (ft.getD k ([], [])).2) l n := by
            intro n
            induction n with
            | zero => rfl
            | succ n ihn =>
              unfold lastW
              by_cases hni : n = i
              · subst hni
                rw [if_neg (fun h => hl' h.2), if_neg (fun h => hl' h.2), ihn]
              · simp only [if_neg hni, ihn]
          exact this _
        rw [hlast]
        exact hfr.keep hl' (hrep l)
theorem chain_drawL {E : Env} {P : Program} {ops : Array Oper} {Q : Exit → Act → World → Prop} {B : Base} (hd : dstsOk B.nt ops = true) (he : edgesOk ops.toList = true)
    {S : Nat → St} {ft : List (List Loc × List Loc)} {m : Nat} (hsz' : ops.size = m + 1) (hl : ft.length = m)
    (hS : ∀ (i : Nat) (o : Oper), i < m → ops[i]? = some o → StepFact E P ops o (S i) (S (i + 1)) (ft.getD i ([], [])).1 (ft.getD i ([], [])).2) (hord : ordOk ops.toList ft = true) (hanc : ∀ k, k < m → ((ancs ops.toList).getD m 0).testBit k = true)
    (hQ : ∀ G w a, Conc E B G w a (S m) → ∀ (o : Oper), ops[m]? = some o → ∀ (K : Act → World → Prop), (∀ a' w', Q .normal a' w' → K a' w') → wpOp P ops Q m K a w) :
    ∀ (fuel : Nat) (listed : Array Bool) (G : Gh) (w : World) (a : Act), listed.size = ops.size → listed.toList.count false = fuel →
      Closed ops.toList (fun k => listed.getD k false = true) → Good E B G w → a.tmps.size = B.nt → a.defers = B.df →
      listed.getD m true = false →
      (∀ l, RepL G w a l (S (lastW (fun k => listed.getD k false) (fun k => (ft.getD k ([], [])).2) l m))) → wpAny P .any ops Q fuel listed a w := by
  have hsame : ∀ i, i < m → ∀ l, l ∉ (ft.getD i ([], [])).2 → SameAt l (S i) (S (i + 1)) := fun i hi l hlw =>
    (hS i ops[i] hi (Array.getElem?_eq_getElem (by omega))).same l hlw
  have hnil : ∀ (listed : Array Bool), listed.size = ops.size → listed.getD m true = false → Region.ready .any ops listed ≠ [] := fun listed hsz hm hr => by
    have := ready_nil he hsz hr m (by omega)
    rw [hm] at this; cases this
  intro fuel
  induction fuel with
  | zero =>
    intro listed G w a hsz hcnt hcl hg has hdf hlm hrep
    have hr : Region.ready .any ops listed = [] := by
      rw [List.eq_nil_iff_forall_not_mem]
      intro i hi
      rw [mem_ready] at hi
      obtain ⟨h0, o, ho, _⟩ := hi
      have hilt : i < listed.size := by rw [hsz]; exact (Array.getElem?_eq_some_iff.1 ho).1
      rw [List.count_eq_zero] at hcnt
      apply hcnt
      rw [Array.getD_eq_getD_getElem?, Array.getElem?_eq_getElem hilt] at h0
      simp only [Option.getD_some] at h0
      rw [← h0]
      simp
    exact absurd hr (hnil listed hsz hlm)
  | succ fuel ih =>
    intro listed G w a hsz hcnt hcl hg has hdf hlm hrep
    refine ⟨fun hr => absurd hr (hnil listed hsz hlm), fun i hi => ?_⟩
    rw [mem_ready] at hi
    obtain ⟨h0, o, ho, hedge⟩ := hi
    have hio : i < ops.size := (Array.getElem?_eq_some_iff.1 ho).1
    have hif : listed.getD i false = false := by rw [getD_cong (by omega) false true]; exact h0
    have hol : ops.toList[i]? = some o := by rw [Array.getElem?_toList]; exact ho
    by_cases hil : i = m
    · -- the last one: all others have been
      subst hil
      have hall : ∀ k, k < i → listed.getD k false = true := fun k hk => ancs_spec (fun k => listed.getD k false = true) ops.toList i k o hcl hol (fun e hem hbd => hedge e hem hbd) (hanc k hk)
      have hlt : ∀ l, lastW (fun k => listed.getD k false) (fun k => (ft.getD k ([], [])).2) l i ≤ i := fun l => (lastW_spec _ _ l i).1
      have hconc : Conc E B G w a (S i) := ⟨hg, has, hdf, fun l => (hrep l).congr (same_run (W := fun k => (ft.getD k ([], [])).2) hsame l _ i (hlt l) (Nat.le_refl _) fun k h1 h2 h3 =>
        (lastW_spec (fun k => listed.getD k false) (fun k => (ft.getD k ([], [])).2) l i).2.1 k h1 h2 ⟨hall k h2, h3⟩)⟩
      refine hQ G w a hconc o ho _ fun a' w' hq => ?_
      have hrn : Region.ready .any ops (listed.setIfInBounds i true) = [] := by
        rw [List.eq_nil_iff_forall_not_mem]
        intro j hj
        rw [mem_ready] at hj
        obtain ⟨j0, oj, hoj, _⟩ := hj
        have hjo : j < ops.size := (Array.getElem?_eq_some_iff.1 hoj).1
        by_cases hji : j = i
        · subst hji
          rw [Array.getD_eq_getD_getElem?, Array.getElem?_setIfInBounds_self_of_lt (by omega)] at j0
          cases j0
        · rw [getD_set_ne true (Ne.symm hji), getD_cong (by omega) true false, hall j (by omega)] at j0
          cases j0
      cases fuel with
      | zero => exact ⟨hrn, hq⟩
      | succ fuel => exact ⟨fun _ => hq, fun j hj => by rw [hrn] at hj; cases hj⟩
    have him : i < m := by omega
    have hf := hS i o him ho
    -- what touches the same place is ordered
    have hordP : ∀ k, k < m → k ≠ i → ∀ l, l ∈ (ft.getD k ([], [])).2 → (l ∈ (ft.getD i ([], [])).1 ∨ l ∈ (ft.getD i ([], [])).2) →
        (k < i → listed.getD k false = true) ∧ (i < k → listed.getD k false = false) := by
      intro k hk hki l hlk hli
      refine ⟨fun hlt => ?_, fun hlt => ?_⟩
      · rcases ordOk.at hord hlt (by omega) with hc | hb
        · have := (clash_false hc).1 l hlk
          rcases hli with h | h
          · exact absurd h this.1
          · exact absurd h this.2
        · exact ancs_spec (fun k => listed.getD k false = true) ops.toList i k o hcl hol (fun e hem hbd => hedge e hem hbd) hb
      · cases hc : listed.getD k false with
        | false => rfl
        | true =>
          exfalso
          rcases ordOk.at hord hlt (by omega) with hc' | hb
          · rcases hli with h | h
            · exact (clash_false hc').2 l hlk h
            · exact ((clash_false hc').1 l h).2 hlk
          · have hok : ops.toList[k]? = some (ops[k]'(by omega)) := by rw [Array.getElem?_toList]; exact Array.getElem?_eq_getElem (by omega)
            have := ancs_spec (fun k => listed.getD k false = true) ops.toList k i _ hcl hok (fun e hem hbd => hcl k _ hok hc e hem hbd) hb
            have h1 : listed.getD i false = true := this
            rw [hif] at h1; cases h1
    have hN : ∀ l, l ∈ (ft.getD i ([], [])).1 → RepL G w a l (S i) := by
      intro l hl'
      refine (hrep l).congr ?_
      have hsp := lastW_spec (fun k => listed.getD k false) (fun k => (ft.getD k ([], [])).2) l m
      refine same_run (W := fun k => (ft.getD k ([], [])).2) hsame l _ i ?_ (by omega) fun k h1 h2 h3 => ?_
      · rcases hsp.2.2 with h | ⟨k, hk, hx, hw⟩
        · omega
        · rw [hk]
          rcases Nat.lt_trichotomy k i with h | h | h
          · omega
          · subst h; have hx' : listed.getD k false = true := hx
            rw [hif] at hx'; cases hx'
          · have hkn : k < m := by have := hsp.1; omega
            have := (hordP k hkn (by omega) l hw (.inl hl')).2 h
            have hx' : listed.getD k false = true := hx
            rw [this] at hx'; cases hx'
      · exact hsp.2.1 k h1 (by omega) ⟨(hordP k (by omega) (by omega) l h3 (.inl hl')).1 h2, h3⟩
    refine wpOp_of ho (hf.run B G w a hg has (dstsOk.at hd ho) hN _ _ fun G' w' a' hg' has' hfr hW => ?_)
    have hget : ∀ k, (listed.setIfInBounds i true).getD k false = if k = i then true else listed.getD k false := by
      intro k
      by_cases hk : k = i
      · subst hk
        rw [if_pos rfl, Array.getD_eq_getD_getElem?, Array.getElem?_setIfInBounds_self_of_lt (by omega)]; rfl
      · rw [if_neg hk, getD_set_ne false (Ne.symm hk)]
    refine ih (listed.setIfInBounds i true) G' w' a' (by simpa using hsz) ?_ ?_ hg' has' (hfr.defers.trans hdf) (by rw [getD_set_ne true hil]; exact hlm) fun l => ?_
    · have hli : i < listed.toList.length := by simp; omega
      have hlf : listed.toList[i] = false := by
        rw [Array.getD_eq_getD_getElem?, Array.getElem?_eq_getElem (by omega)] at hif
        simpa using hif
      rw [Array.toList_setIfInBounds, List.count_set hli, hlf, hcnt]
      simp
    · intro j oj hoj hj e hem hbd
      simp only [hget] at hj ⊢
      by_cases hji : j = i
      · subst hji
        rw [hol] at hoj
        injection hoj with hoj
        subst hoj
        split
        · rfl
        · exact hedge e hem hbd
      · rw [if_neg hji] at hj
        split
        · rfl
        · exact hcl j oj hoj hj e hem hbd
    · -- the places, behind the step
      have hX : (fun k => (listed.setIfInBounds i true).getD k false) = fun k => if k = i then true else listed.getD k false := funext hget
      rw [hX]
      by_cases hl' : l ∈ (ft.getD i ([], [])).2
      · have hlast : lastW (fun k => if k = i then true else listed.getD k false) (fun k => (ft.getD k ([], [])).2) l m = i + 1 := by
          have hsp := lastW_spec (fun k => if k = i then true else listed.getD k false) (fun k => (ft.getD k ([], [])).2) l m
          rcases hsp.2.2 with h | ⟨k, hk, hx, hw⟩
          · exact absurd ⟨by simp, hl'⟩ (hsp.2.1 i (by omega) him)
          · rw [hk]
            have hkn : k < m := by have := hsp.1; omega
            rcases Nat.lt_trichotomy k i with h | h | h
            · exact absurd ⟨by simp, hl'⟩ (hsp.2.1 i (by omega) him)
            · rw [h]
            · have := (hordP k hkn (by omega) l hw (.inr hl')).2 h
              simp only [if_neg (show ¬ k = i by omega)] at hx
              rw [this] at hx; cases hx
        rw [hlast]
        exact hW l hl'
      · have hlast : lastW (fun k => if k = i then true else listed.getD k false) (fun k => (ft.getD k ([], [])).2) l m = lastW (fun k => listed.getD k false) (fun k => (ft.getD k ([], [])).2) l m := by
          have : ∀ n, lastW (fun k => if k = i then true else listed.getD k false) (fun k => (ft.getD k ([], [])).2) l n = lastW (fun k => listed.getD k false) (fun k => (ft.getD k ([], [])).2) l n := by
            intro n
            induction n with
            | zero => rfl
            | succ n ihn =>
              unfold lastW
              by_cases hni : n = i
              · subst hni
                rw [if_neg (fun h => hl' h.2), if_neg (fun h => hl' h.2), ihn]
              · simp only [if_neg hni, ihn]
          exact this _
        rw [hlast]
        exact hfr.keep hl' (hrep l)
theorem wp_region_chain2 {E : Env} {P : Program} (hm : P.follows .mixedOrders = true) {ops : Array Oper} {Q : Exit → Act → World → Prop} {B : Base} (hd : dstsOk B.nt ops = true)
    {draw : Bool} {st st' : St} {ft : List (List Loc × List Loc)} (hc : Chain E P ops ops.toList st ft st')
    (hdraw : draw = true → edgesOk ops.toList = true ∧ ordOk ops.toList ft = true)
    {G : Gh} {w : World} {a : Act} (hst : Conc E B G w a st) (hQ : ∀ G' w' a', Conc E B G' w' a' st' → Q .normal a' w') : (draw = false → wpOps P ops Q (List.range ops.size) a w) ∧ (draw = true → wpAny P .any ops Q ops.size (Array.replicate ops.size false) a { w with drawn := w.drawn + 1 }) := by
  cases draw with
  | false =>
    refine ⟨fun _ => ?_, fun h => by cases h⟩
    have := chain_text (Q := Q) hd ops.toList 0 st st' ft rfl hc G w a hst hQ
    rw [Array.length_toList] at this
    rw [List.range_eq_range']
    exact this
  | true =>
    obtain ⟨he, hord⟩ := hdraw rfl
    obtain ⟨S, h0, hn, hl, hS⟩ := hc.seq
    refine ⟨fun h => (by cases h), fun _ => ?_⟩
    have hcount : ∀ n, (Array.replicate n false).toList.count false = n := by intro n; simp
    refine chain_draw (G := G) hd he (by simpa using hl) (fun i o ho => hS i o (by rw [Array.getElem?_toList]; exact ho)) hord
      (fun G' w' a' h => hQ G' w' a' (by rw [Array.length_toList] at hn; rw [← hn]; exact h)) ops.size _ _ _ (by simp) (hcount _) ?_ ?_ hst.size hst.defers ?_
    · intro j o ho hj
      exfalso
      have hj' : (Array.replicate ops.size false).getD j false = true := hj
      rw [Array.getD_eq_getD_getElem?] at hj'
      rw [Array.getElem?_replicate] at hj'
      split at hj' <;> simp at hj'
    · have := hst.good
      exact ⟨this.fin, this.own, this.size, this.old, this.keep, this.new, this.os, this.tape, this.output, this.glob, this.gb, this.ids, this.toks, this.grow⟩
    · intro l
      have hz : lastW (fun k => (Array.replicate ops.size false).getD k false) (fun k => (ft.getD k ([], [])).2) l ops.size = 0 := by
        have hsp := lastW_spec (fun k => (Array.replicate ops.size false).getD k false) (fun k => (ft.getD k ([], [])).2) l ops.size
        rcases hsp.2.2 with h | ⟨k, _, hx, _⟩
        · exact h
        · exfalso
          have hx' : (Array.replicate ops.size false).getD k false = true := hx
          rw [Array.getD_eq_getD_getElem?, Array.getElem?_replicate] at hx'
          split at hx' <;> simp at hx'
      rw [hz, h0]
      have hr := hst.rep l
      cases l with
      | slot t =>
        have hx : Ext G w G ({ w with drawn := w.drawn + 1 } : World) := ⟨fun _ _ h => h, fun _ _ h => h, fun _ _ h => h, fun _ _ _ => rfl, fun _ _ h => h⟩
        exact RepSlot.ext hr hx
      | obj i =>
        simp only [RepL] at hr ⊢
        have hx : Ext G w G ({ w with drawn := w.drawn + 1 } : World) := ⟨fun _ _ h => h, fun _ _ h => h, fun _ _ h => h, fun _ _ _ => rfl, fun _ _ h => h⟩
        cases hh : st.H[i]? with
        | none => rw [hh] at hr; exact hr
        | some o =>
          rw [hh] at hr
          cases o with
          | dead => trivial
          | mp es => obtain ⟨g, h1, h2, h3, h4⟩ := hr; exact ⟨g, h1, h2, h3, h4.keep (fun _ _ h => h) (fun _ _ _ => rfl) (fun _ hk => ⟨hk, rfl, fun _ h => h⟩) rfl⟩
          | cells t cs tg =>
            rcases hr with h0 | ⟨g, h1, h2, h3, vals, fz, h4, h5, h6, h7⟩
            · exact .inl h0
            exact .inr ⟨g, h1, h2, h3, vals, fz, h4, h5, h6, fun j c hc => let ⟨v, hv, ho, hrs⟩ := h7 j c hc; ⟨v, hv, ho, hrs.ext hx⟩⟩
      | tok i => exact hr
theorem wp_region_last2 {E : Env} {P : Program} {ops : Array Oper} {Q : Exit → Act → World → Prop} {B : Base} (hd : dstsOk B.nt ops = true) {m : Nat}
    {st st' : St} {ft : List (List Loc × List Loc)} (hsz : ops.size = m + 1) (hc : Chain E P ops (ops.toList.take m) st ft st') (he : edgesOk ops.toList = true) (hord : ordOk ops.toList ft = true)
    (hanc : ∀ k, k < m → ((ancs ops.toList).getD m 0).testBit k = true) {G : Gh} {w : World} {a : Act} (hst : Conc E B G w a st)
    (hQ : ∀ G w a, Conc E B G w a st' → ∀ (o : Oper), ops[m]? = some o → ∀ (K : Act → World → Prop), (∀ a' w', Q .normal a' w' → K a' w') → wpOp P ops Q m K a w) : wpAny P .any ops Q ops.size (Array.replicate ops.size false) a { w with drawn := w.drawn + 1 } := by
  obtain ⟨S, h0, hn, hl, hS⟩ := hc.seq
  have hlen : (ops.toList.take m).length = m := by simp; omega
  have hcount : ∀ n, (Array.replicate n false).toList.count false = n := by intro n; simp
  have hfalse : ∀ j, (Array.replicate ops.size false).getD j false = true → False := fun j hj' => by
    rw [Array.getD_eq_getD_getElem?, Array.getElem?_replicate] at hj'
    split at hj' <;> simp at hj'
  refine chain_drawL (G := G) hd he hsz (by rw [hl, hlen]) (fun i o hi ho => hS i o (by rw [List.getElem?_take, if_pos hi, Array.getElem?_toList]; exact ho)) hord hanc
    (fun G' w' a' h => hQ G' w' a' (by rw [hlen] at hn; rw [← hn]; exact h)) ops.size _ _ _ (by simp) (hcount _) ?_ ?_ hst.size hst.defers ?_ ?_
  · exact fun j o ho hj => (hfalse j hj).elim
  · have := hst.good
    exact ⟨this.fin, this.own, this.size, this.old, this.keep, this.new, this.os, this.tape, this.output, this.glob, this.gb, this.ids, this.toks, this.grow⟩
  · rw [Array.getD_eq_getD_getElem?, Array.getElem?_replicate, if_pos (by omega)]; rfl
  · intro l
    have hz : lastW (fun k => (Array.replicate ops.size false).getD k false) (fun k => (ft.getD k ([], [])).2) l m = 0 := by
      have hsp := lastW_spec (fun k => (Array.replicate ops.size false).getD k false) (fun k => (ft.getD k ([], [])).2) l m
      rcases hsp.2.2 with h | ⟨k, _, hx, _⟩
      · exact h
      · exact (hfalse k hx).elim
    rw [hz, h0]
    have hr := hst.rep l
    have hx : Ext G w G ({ w with drawn := w.drawn + 1 } : World) := ⟨fun _ _ h => h, fun _ _ h => h, fun _ _ h => h, fun _ _ _ => rfl, fun _ _ h => h⟩
    cases l with
    | slot t => exact RepSlot.ext hr hx
    | obj i =>
      simp only [RepL] at hr ⊢
      cases hh : st.H[i]? with
      | none => rw [hh] at hr; exact hr
      | some o =>
        rw [hh] at hr
        cases o with
        | dead => trivial
        | mp es => obtain ⟨g, h1, h2, h3, h4⟩ := hr; exact ⟨g, h1, h2, h3, h4.keep (fun _ _ h => h) (fun _ _ _ => rfl) (fun _ hk => ⟨hk, rfl, fun _ h => h⟩) rfl⟩
        | cells t cs tg =>
          rcases hr with h0 | ⟨g, h1, h2, h3, vals, fz, h4, h5, h6, h7⟩
          · exact .inl h0
          exact .inr ⟨g, h1, h2, h3, vals, fz, h4, h5, h6, fun j c hc => let ⟨v, hv, ho, hrs⟩ := h7 j c hc; ⟨v, hv, ho, hrs.ext hx⟩⟩
    | tok i => exact hr
theorem wp_region_last {E : Env} {P : Program} (hm : P.follows .mixedOrders = true) {ops : Array Oper} {Q : Exit → Act → World → Prop} {B : Base} (hd : dstsOk B.nt ops = true) {id m : Nat}
    {st st' : St} {ft : List (List Loc × List Loc)} (hsz : ops.size = m + 1) (hc : Chain E P ops (ops.toList.take m) st ft st') (he : edgesOk ops.toList = true) (hord : ordOk ops.toList ft = true)
    (hanc : ∀ k, k < m → ((ancs ops.toList).getD m 0).testBit k = true) {G : Gh} {w : World} {a : Act} (hst : Conc E B G w a st)
    (hQ : ∀ G w a, Conc E B G w a st' → ∀ (o : Oper), ops[m]? = some o → ∀ (K : Act → World → Prop), (∀ a' w', Q .normal a' w' → K a' w') → wpOp P ops Q m K a w) : (Code.region id ops true).wp P Q a w :=
  wp_region_any hm (wp_region_last2 hd hsz hc he hord hanc hst hQ)
theorem wp_region_chain {E : Env} {P : Program} (hm : P.follows .mixedOrders = true) {ops : Array Oper} {Q : Exit → Act → World → Prop} {B : Base} (hd : dstsOk B.nt ops = true)
    {id : Nat} {draw : Bool} {st st' : St} {ft : List (List Loc × List Loc)} (hc : Chain E P ops ops.toList st ft st')
    (hdraw : draw = true → edgesOk ops.toList = true ∧ ordOk ops.toList ft = true)
    {G : Gh} {w : World} {a : Act} (hst : Conc E B G w a st) (hQ : ∀ G' w' a', Conc E B G' w' a' st' → Q .normal a' w') : (Code.region id ops draw).wp P Q a w := by
  have h := wp_region_chain2 hm hd hc hdraw hst hQ
  cases draw with
  | false => exact wp_region (h.1 rfl)
  | true => exact wp_region_any hm (h.2 rfl)
def keysB : List (AV × AV) → Bool
  | [] => true
  | (.str t, _) :: es => (es.all fun p => match p.1 with | .str u => !(u == t) | _ => false) && keysB es
  | _ => false
theorem keysB_cons {p : AV × AV} {es : List (AV × AV)} (h : keysB (p :: es) = true) : ∃ t v, p = (AV.str t, v) ∧ (∀ u w, (AV.str u, w) ∈ es → (u == t) = false) ∧ keysB es = true := by
  obtain ⟨k, v⟩ := p
  unfold keysB at h
  split at h
  · rename_i h0; cases h0
  · rename_i t v' es' h0
    injection h0 with h1 h2
    injection h1 with h1 h3
    subst h1 h2 h3
    rw [Bool.and_eq_true, List.all_eq_true] at h
    refine ⟨t, v, rfl, fun u w hm => ?_, h.2⟩
    simpa using h.1 _ hm
  · cases h
theorem keysB_of {es : List (AV × AV)} (h1 : ∀ p, p ∈ es → ∃ t, p.1 = AV.str t) (h2 : (es.map (·.1)).Nodup) : keysB es = true := by
  induction es with
  | nil => rfl
  | cons p es ih =>
    obtain ⟨t, ht⟩ := h1 p (List.mem_cons_self ..)
    obtain ⟨k, v⟩ := p
    replace ht : k = AV.str t := ht
    subst ht
    rw [List.map_cons, List.nodup_cons] at h2
    unfold keysB
    rw [ih (fun p hp => h1 p (List.mem_cons_of_mem _ hp)) h2.2, Bool.and_true, List.all_eq_true]
    intro q hq
    obtain ⟨u, hu⟩ := h1 q (List.mem_cons_of_mem _ hq)
    rw [hu]
    show (!(u == t)) = true
    cases hb : (u == t) with
    | false => rfl
    | true => exact absurd (List.mem_map.2 ⟨q, hq, by rw [hu, eq_of_beq hb]⟩) h2.1
theorem keysB_str {es : List (AV × AV)} (h : keysB es = true) : (∀ p, p ∈ es → ∃ t, p.1 = AV.str t) ∧ (es.map (·.1)).Nodup := by
  induction es with
  | nil => exact ⟨fun p hp => (by cases hp), List.nodup_nil⟩
  | cons p es ih =>
    obtain ⟨t, v, rfl, hd, hk⟩ := keysB_cons h
    obtain ⟨i1, i2⟩ := ih hk
    refine ⟨fun p hp => ?_, ?_⟩
    · rcases List.mem_cons.1 hp with rfl | hp
      · exact ⟨t, rfl⟩
      · exact i1 p hp
    · rw [List.map_cons, List.nodup_cons]
      refine ⟨fun hm => ?_, i2⟩
      obtain ⟨q, hq, he⟩ := List.mem_map.1 hm
      obtain ⟨k, w⟩ := q
      replace he : k = AV.str t := he
      subst he
      have := hd _ _ hq
      simp at this
theorem keysB_perm {es es' : List (AV × AV)} (hp : es'.Perm es) (h : keysB es = true) : keysB es' = true := by
  obtain ⟨h1, h2⟩ := keysB_str h
  exact keysB_of (fun p hm => h1 p (hp.mem_iff.1 hm)) ((hp.map (·.1)).nodup_iff.2 h2)
end Go.Pm
namespace Go.Pm
open Go Go.RowKit
set_option linter.unusedSimpArgs false
set_option linter.unusedVariables false
def St.wM (st : St) (id : Nat) (es : List (AV × AV)) : St := { st with H := st.H.set id (.mp (.map es)) }
theorem St.wM_same (st : St) (id : Nat) (es : List (AV × AV)) : ∀ l, l ≠ .obj id → SameAt l st (st.wM id es) := fun l hl => by
  cases l with
  | slot t => exact ⟨rfl, rfl⟩
  | tok i => rfl
  | obj i =>
    have : id ≠ i := fun e => hl (by rw [e])
    show st.H[i]? = (st.H.set id _)[i]?
    rw [List.getElem?_set_ne this]
def St.wP (st : St) (id : Nat) (es : List (AV × AV)) : St := { st with H := st.H.set id (.mp (.mapP es)) }
theorem Conc.perm {E : Env} {B : Base} {G : Gh} {w : World} {a : Act} {st : St} {id : Nat} {es es' : List (AV × AV)} (h : Conc E B G w a (st.wM id es)) (hp : es.Perm es') : Conc E B G w a (st.wP id es') := by
  refine ⟨h.good, h.size, h.defers, fun l => ?_⟩
  have hl := h.rep l
  cases l with
  | slot t => exact hl
  | tok i => exact hl
  | obj i =>
    simp only [RepL] at hl ⊢
    by_cases hi : id = i
    · subst hi
      rcases Nat.lt_or_ge id st.H.length with h1 | h1
      · rw [show (st.wM id es).H[id]? = some (.mp (.map es)) from List.getElem?_set_self h1] at hl
        rw [show (st.wP id es').H[id]? = some (.mp (.mapP es')) from List.getElem?_set_self h1]
        obtain ⟨g, i1, i2, i3, i4⟩ := hl
        exact ⟨g, i1, i2, i3, es, hp, i4⟩
      · have e1 : (st.wM id es).H[id]? = none := List.getElem?_eq_none (by unfold St.wM; simpa using h1)
        have e2 : (st.wP id es').H[id]? = none := List.getElem?_eq_none (by unfold St.wP; simpa using h1)
        rw [e1] at hl; rw [e2]; exact hl
    · have e1 : (st.wM id es).H[i]? = st.H[i]? := List.getElem?_set_ne hi
      have e2 : (st.wP id es').H[i]? = st.H[i]? := List.getElem?_set_ne hi
      rw [e1] at hl; rw [e2]; exact hl
def T0 (id : Nat) (es : List (AV × AV)) : St := { s := fun _ => .any, g := fun _ => none, H := List.replicate id .dead ++ [.mp (.map es)], k := [] }
theorem T0_get (id : Nat) (es : List (AV × AV)) : (T0 id es).H[id]? = some (.mp (.map es)) := by
  unfold T0
  simp
def entsOf (I : Nat → Option (AV × AV)) (X : Nat → Bool) : Nat → List (AV × AV)
  | 0 => []
  | n + 1 => entsOf I X n ++ (if X n then (I n).toList else [])
theorem entsOf_same {I : Nat → Option (AV × AV)} {X Y : Nat → Bool} : ∀ {n : Nat}, (∀ k, k < n → X k = Y k) → entsOf I X n = entsOf I Y n
  | 0, _ => rfl
  | n + 1, h => by
    unfold entsOf
    rw [entsOf_same fun k hk => h k (by omega), h n (by omega)]
theorem entsOf_put {I : Nat → Option (AV × AV)} {X : Nat → Bool} {i : Nat} {e : AV × AV} (he : I i = some e) (hx : X i = false) : ∀ {n : Nat}, i < n → (entsOf I X n ++ [e]).Perm (entsOf I (fun k => if k = i then true else X k) n)
  | 0, h => by omega
  | n + 1, h => by
    unfold entsOf
    by_cases hn : n = i
    · subst hn
      rw [if_pos rfl, hx, he]
      have : entsOf I (fun k => if k = n then true else X k) n = entsOf I X n := entsOf_same fun k hk => if_neg (by omega)
      rw [this]
      simp
    · simp only [if_neg hn]
      have ih := entsOf_put (n := n) he hx (by omega)
      refine .trans ?_ (ih.append_right _)
      rw [List.append_assoc, List.append_assoc]
      exact (List.perm_append_comm).append_left _
theorem entsOf_skip {I : Nat → Option (AV × AV)} {X : Nat → Bool} {i : Nat} (he : I i = none) : ∀ {n : Nat}, entsOf I (fun k => if k = i then true else X k) n = entsOf I X n
  | 0 => rfl
  | n + 1 => by
    unfold entsOf
    rw [entsOf_skip he]
    by_cases hn : n = i
    · subst hn; rw [he]; simp
    · rw [if_neg hn]
theorem entsOf_none {I : Nat → Option (AV × AV)} {X : Nat → Bool} : ∀ {n : Nat}, (∀ k, k < n → X k = true → I k = none) → entsOf I X n = []
  | 0, _ => rfl
  | n + 1, h => by
    unfold entsOf
    rw [entsOf_none fun k hk => h k (by omega)]
    cases hx : X n with
    | false => rfl
    | true => rw [h n (by omega) hx]; rfl
theorem keysB_sub {es es' : List (AV × AV)} (hp : es'.Sublist es) (h : keysB es = true) : keysB es' = true := by
  obtain ⟨h1, h2⟩ := keysB_str h
  exact keysB_of (fun p hm => h1 p (hp.subset hm)) ((hp.map (·.1)).nodup h2)
theorem entsOf_sub {I : Nat → Option (AV × AV)} {X : Nat → Bool} : ∀ {n : Nat}, (entsOf I X n).Sublist (entsOf I (fun _ => true) n)
  | 0 => .slnil
  | n + 1 => by
    unfold entsOf
    refine entsOf_sub.append ?_
    cases X n with
    | true => exact .refl _
    | false => exact List.nil_sublist _
def entsL : List (Option (AV × AV)) → List (AV × AV)
  | [] => []
  | none :: l => entsL l
  | some e :: l => e :: entsL l
theorem entsOf_shift (f : Nat → Option (AV × AV)) : ∀ n, entsOf f (fun _ => true) (n + 1) = (f 0).toList ++ entsOf (fun i => f (i + 1)) (fun _ => true) n
  | 0 => by simp [entsOf]
  | n + 1 => by
    rw [show entsOf f (fun _ => true) (n + 1 + 1) = entsOf f (fun _ => true) (n + 1) ++ (f (n + 1)).toList from rfl, entsOf_shift f n,
      show entsOf (fun i => f (i + 1)) (fun _ => true) (n + 1) = entsOf (fun i => f (i + 1)) (fun _ => true) n ++ (f (n + 1)).toList from rfl, List.append_assoc]
theorem entsOf_list : ∀ (I : List (Option (AV × AV))), entsOf (fun i => I.getD i none) (fun _ => true) I.length = entsL I
  | [] => rfl
  | x :: l => by
    have := entsOf_list l
    rw [List.length_cons, entsOf_shift]
    simp only [List.getD_cons_zero, List.getD_cons_succ]
    rw [this]
    cases x <;> rfl
def ftM (I : Nat → Option (AV × AV)) (id : Nat) (i : Nat) (p : List Loc × List Loc) : List Loc × List Loc := match I i with
  | some _ => (p.1.filter (· != .obj id), [])
  | none => p
def ftMs (I : Nat → Option (AV × AV)) (id : Nat) (ft : List (List Loc × List Loc)) : List (List Loc × List Loc) := ft.zipIdx.map fun p => ftM I id p.2 p.1
theorem ftMs_get (I : Nat → Option (AV × AV)) (id : Nat) (ft : List (List Loc × List Loc)) {i : Nat} (h : i < ft.length) : (ftMs I id ft).getD i ([], []) = ftM I id i (ft.getD i ([], [])) := by
  unfold ftMs
  simp [List.getD, List.getElem?_map, List.getElem?_zipIdx, List.getElem?_eq_getElem h]
def wrM (I : Nat → Option (AV × AV)) (id : Nat) (ft : List (List Loc × List Loc)) (i : Nat) : List Loc := match I i with
  | some _ => [.obj id]
  | none => (ft.getD i ([], [])).2
theorem chain_drawM {E : Env} {P : Program} {ops : Array Oper} {Q : Exit → Act → World → Prop} {B : Base} (hd : dstsOk B.nt ops = true) (he : edgesOk ops.toList = true)
    {S : Nat → St} {ft : List (List Loc × List Loc)} (hl : ft.length = ops.size) {id m : Nat} {I : Nat → Option (AV × AV)}
    (hS : ∀ (i : Nat) (o : Oper), ops[i]? = some o → I i = none → StepFact E P ops o (S i) (S (i + 1)) (ft.getD i ([], [])).1 (ft.getD i ([], [])).2)
    (hI : ∀ (i : Nat) (o : Oper) (e : AV × AV) (es : List (AV × AV)), ops[i]? = some o → I i = some e → keysB (es ++ [e]) = true → StepFact E P ops o ((S i).wM id es) ((S i).wM id (es ++ [e])) (ft.getD i ([], [])).1 [.obj id])
    (hIS : ∀ i, i < ops.size → (I i).isSome = true → (∀ l, l ≠ .obj id → SameAt l (S i) (S (i + 1))) ∧ id < (S i).H.length ∧ ((ancs ops.toList).getD i 0).testBit m = true)
    (hclean : ∀ i, i < ops.size → I i = none → i ≠ m → Loc.obj id ∉ (ft.getD i ([], [])).1 ∧ Loc.obj id ∉ (ft.getD i ([], [])).2)
    (hmake : m < ops.size ∧ I m = none ∧ Loc.obj id ∈ (ft.getD m ([], [])).2 ∧ (S (m + 1)).H[id]? = some (.mp (.map [])))
    (hkeys : keysB (entsOf I (fun _ => true) ops.size) = true) (hfin : id < (S ops.size).H.length)
    (hord : ordOk ops.toList (ftMs I id ft) = true)
    (hQ : ∀ G w a es, es.Perm (entsOf I (fun _ => true) ops.size) → Conc E B G w a ((S ops.size).wM id es) → Q .normal a w) :
    ∀ (fuel : Nat) (listed : Array Bool) (G : Gh) (w : World) (a : Act), listed.size = ops.size → listed.toList.count false = fuel →
      Closed ops.toList (fun k => listed.getD k false = true) → Good E B G w → a.tmps.size = B.nt → a.defers = B.df →
      (∀ l, l ≠ .obj id → RepL G w a l (S (lastW (fun k => listed.getD k false) (wrM I id ft) l ops.size))) →
      (listed.getD m false = false → RepL G w a (.obj id) (S m)) →
      (listed.getD m false = true → ∃ es, es.Perm (entsOf I (fun k => listed.getD k false) ops.size) ∧ RepL G w a (.obj id) (T0 id es)) → wpAny P .any ops Q fuel listed a w := by
  have hsame : ∀ i, i < ops.size → ∀ l, l ∉ wrM I id ft i → SameAt l (S i) (S (i + 1)) := fun i hi l hlw => by
    unfold wrM at hlw
    cases hx : I i with
    | none => rw [hx] at hlw; exact (hS i ops[i] (Array.getElem?_eq_getElem hi) hx).same l hlw
    | some e => rw [hx] at hlw; exact (hIS i hi (by rw [hx]; rfl)).1 l (by simpa using hlw)
  have hrepM : ∀ {G : Gh} {w : World} {a : Act} {st : St} {es : List (AV × AV)}, id < st.H.length → RepL G w a (.obj id) (T0 id es) → RepL G w a (.obj id) (st.wM id es) := fun {G w a st es} hlt h => by
    simp only [RepL] at h ⊢
    rw [T0_get] at h
    show RepObj _ _ _ (st.H.set id _)[id]?
    rw [List.getElem?_set_self hlt]; exact h
  have hdone : ∀ (listed : Array Bool) (G : Gh) (w : World) (a : Act), listed.size = ops.size → Good E B G w → a.tmps.size = B.nt → a.defers = B.df → Region.ready .any ops listed = [] →
      (∀ l, l ≠ .obj id → RepL G w a l (S (lastW (fun k => listed.getD k false) (wrM I id ft) l ops.size))) →
      (listed.getD m false = true → ∃ es, es.Perm (entsOf I (fun k => listed.getD k false) ops.size) ∧ RepL G w a (.obj id) (T0 id es)) → Q .normal a w := by
    intro listed G w a hsz hg has hdf hr hrep hC
    have hall : ∀ k, k < ops.size → listed.getD k false = true := fun k h2 => by
      have := ready_nil he hsz hr k h2
      rw [getD_cong (by omega) false true]; exact this
    obtain ⟨es, hp, hre⟩ := hC (hall m hmake.1)
    rw [entsOf_same (Y := fun _ => true) fun k hk => hall k hk] at hp
    refine hQ G w a es hp ⟨hg, has, hdf, fun l => ?_⟩
    by_cases hlo : l = .obj id
    · subst hlo; exact hrepM hfin hre
    · refine ((hrep l hlo).congr ?_).congr (St.wM_same _ id es l hlo)
      have hsp := lastW_spec (fun k => listed.getD k false) (wrM I id ft) l ops.size
      exact same_run (W := wrM I id ft) hsame l _ _ hsp.1 (Nat.le_refl _) fun k h1 h2 h3 => hsp.2.1 k h1 h2 ⟨hall k h2, h3⟩
  intro fuel
  induction fuel with
  | zero =>
    intro listed G w a hsz hcnt hcl hg has hdf hrep hC0 hC
    have hr : Region.ready .any ops listed = [] := by
      rw [List.eq_nil_iff_forall_not_mem]
      intro i hi
      rw [mem_ready] at hi
      obtain ⟨h0, o, ho, _⟩ := hi
      have hilt : i < listed.size := by rw [hsz]; exact (Array.getElem?_eq_some_iff.1 ho).1
      rw [List.count_eq_zero] at hcnt
      apply hcnt
      rw [Array.getD_eq_getD_getElem?, Array.getElem?_eq_getElem hilt] at h0
      simp only [Option.getD_some] at h0
      rw [← h0]
      simp
    exact ⟨hr, hdone listed G w a hsz hg has hdf hr hrep hC⟩
  | succ fuel ih =>
    intro listed G w a hsz hcnt hcl hg has hdf hrep hC0 hC
    refine ⟨fun hr => hdone listed G w a hsz hg has hdf hr hrep hC, fun i hi => ?_⟩
    rw [mem_ready] at hi
    obtain ⟨h0, o, ho, hedge⟩ := hi
    have hio : i < ops.size := (Array.getElem?_eq_some_iff.1 ho).1
    have hif : listed.getD i false = false := by rw [getD_cong (by omega) false true]; exact h0
    have hol : ops.toList[i]? = some o := by rw [Array.getElem?_toList]; exact ho
    have hlM : (ftMs I id ft).length = ops.size := by unfold ftMs; simp [hl]
    have hwr : ∀ k, k < ops.size → ∀ l, l ≠ .obj id → l ∈ wrM I id ft k → l ∈ ((ftMs I id ft).getD k ([], [])).2 := fun k hk l hlo hm => by
      rw [ftMs_get I id ft (by omega)]
      unfold wrM at hm
      unfold ftM
      cases hx : I k with
      | none => rw [hx] at hm; exact hm
      | some e => rw [hx] at hm; exact absurd (by simpa using hm) hlo
    have hrd : ∀ l, l ≠ .obj id → l ∈ (ft.getD i ([], [])).1 → l ∈ ((ftMs I id ft).getD i ([], [])).1 := fun l hlo hm => by
      rw [ftMs_get I id ft (by omega)]
      unfold ftM
      cases hx : I i with
      | none => exact hm
      | some e => exact List.mem_filter.2 ⟨hm, by simpa using hlo⟩
    -- what touches the same place is ordered
    have hordP : ∀ k, k < ops.size → k ≠ i → ∀ l, l ≠ .obj id → l ∈ wrM I id ft k → (l ∈ (ft.getD i ([], [])).1 ∨ l ∈ wrM I id ft i) →
        (k < i → listed.getD k false = true) ∧ (i < k → listed.getD k false = false) := by
      intro k hk hki l hlo hlk hli
      replace hlk := hwr k hk l hlo hlk
      replace hli : l ∈ ((ftMs I id ft).getD i ([], [])).1 ∨ l ∈ ((ftMs I id ft).getD i ([], [])).2 := hli.imp (hrd l hlo) (hwr i hio l hlo)
      refine ⟨fun hlt => ?_, fun hlt => ?_⟩
      · rcases ordOk.at hord hlt (by omega) with hc | hb
        · have := (clash_false hc).1 l hlk
          rcases hli with h | h
          · exact absurd h this.1
          · exact absurd h this.2
        · exact ancs_spec (fun k => listed.getD k false = true) ops.toList i k o hcl hol (fun e hem hbd => hedge e hem hbd) hb
      · cases hc : listed.getD k false with
        | false => rfl
        | true =>
          exfalso
          rcases ordOk.at hord hlt (by omega) with hc' | hb
          · rcases hli with h | h
            · exact (clash_false hc').2 l hlk h
            · exact ((clash_false hc').1 l h).2 hlk
          · have hok : ops.toList[k]? = some ops[k] := by rw [Array.getElem?_toList]; exact Array.getElem?_eq_getElem hk
            have := ancs_spec (fun k => listed.getD k false = true) ops.toList k i _ hcl hok (fun e hem hbd => hcl k _ hok hc e hem hbd) hb
            have h1 : listed.getD i false = true := this
            rw [hif] at h1; cases h1
    have hN : ∀ l, l ≠ .obj id → l ∈ (ft.getD i ([], [])).1 → RepL G w a l (S i) := by
      intro l hlo hl'
      refine (hrep l hlo).congr ?_
      have hsp := lastW_spec (fun k => listed.getD k false) (wrM I id ft) l ops.size
      refine same_run (W := wrM I id ft) hsame l _ i ?_ (by omega) fun k h1 h2 h3 => ?_
      · rcases hsp.2.2 with h | ⟨k, hk, hx, hw⟩
        · omega
        · rw [hk]
          rcases Nat.lt_trichotomy k i with h | h | h
          · omega
          · subst h; have hx' : listed.getD k false = true := hx
            rw [hif] at hx'; cases hx'
          · have hkn : k < ops.size := by have := hsp.1; omega
            have := (hordP k hkn (by omega) l hlo hw (.inl hl')).2 h
            have hx' : listed.getD k false = true := hx
            rw [this] at hx'; cases hx'
      · exact hsp.2.1 k h1 (by omega) ⟨(hordP k (by omega) (by omega) l hlo h3 (.inl hl')).1 h2, h3⟩
    have hget : ∀ k, (listed.setIfInBounds i true).getD k false = if k = i then true else listed.getD k false := by
      intro k
      by_cases hk : k = i
      · subst hk
        rw [if_pos rfl, Array.getD_eq_getD_getElem?, Array.getElem?_setIfInBounds_self_of_lt (by omega)]; rfl
      · rw [if_neg hk, getD_set_ne false (Ne.symm hk)]
    have hX : (fun k => (listed.setIfInBounds i true).getD k false) = fun k => if k = i then true else listed.getD k false := funext hget
    have hcnt' : (listed.setIfInBounds i true).toList.count false = fuel := by
      have hli : i < listed.toList.length := by simp; omega
      have hlf : listed.toList[i] = false := by
        rw [Array.getD_eq_getD_getElem?, Array.getElem?_eq_getElem (by omega)] at hif
        simpa using hif
      rw [Array.toList_setIfInBounds, List.count_set hli, hlf, hcnt]
      simp
    have hcl' : Closed ops.toList (fun k => (listed.setIfInBounds i true).getD k false = true) := by
      intro j oj hoj hj e hem hbd
      simp only [hget] at hj ⊢
      by_cases hji : j = i
      · subst hji
        rw [hol] at hoj
        injection hoj with hoj
        subst hoj
        split
        · rfl
        · exact hedge e hem hbd
      · rw [if_neg hji] at hj
        split
        · rfl
        · exact hcl j oj hoj hj e hem hbd
    have hlast1 : ∀ l, l ≠ .obj id → l ∈ wrM I id ft i → lastW (fun k => if k = i then true else listed.getD k false) (wrM I id ft) l ops.size = i + 1 := fun l hlo hl' => by
      have hsp := lastW_spec (fun k => if k = i then true else listed.getD k false) (wrM I id ft) l ops.size
      rcases hsp.2.2 with h | ⟨k, hk, hx, hw⟩
      · exact absurd ⟨by simp, hl'⟩ (hsp.2.1 i (by omega) hio)
      · rw [hk]
        have hkn : k < ops.size := by have := hsp.1; omega
        rcases Nat.lt_trichotomy k i with h | h | h
        · exact absurd ⟨by simp, hl'⟩ (hsp.2.1 i (by omega) hio)
        · rw [h]
        · have := (hordP k hkn (by omega) l hlo hw (.inr hl')).2 h
          simp only [if_neg (show ¬ k = i by omega)] at hx
          rw [this] at hx; cases hx
    have hlast0 : ∀ l, l ∉ wrM I id ft i → lastW (fun k => if k = i then true else listed.getD k false) (wrM I id ft) l ops.size = lastW (fun k => listed.getD k false) (wrM I id ft) l ops.size := fun l hl' => by
      have : ∀ n, lastW (fun k => if k = i then true else listed.getD k false) (wrM I id ft) l n = lastW (fun k => listed.getD k false) (wrM I id ft) l n := by
        intro n
        induction n with
        | zero => rfl
        | succ n ihn =>
          unfold lastW
          by_cases hni : n = i
          · subst hni
            rw [if_neg (fun h => hl' h.2), if_neg (fun h => hl' h.2), ihn]
          · simp only [if_neg hni, ihn]
      exact this _
    cases hx : I i with
    | none =>
      have hf := hS i o ho hx
      have hwi : wrM I id ft i = (ft.getD i ([], [])).2 := by unfold wrM; rw [hx]
      refine wpOp_of ho (hf.run B G w a hg has (dstsOk.at hd ho) (fun l hl' => ?_) _ _ fun G' w' a' hg' has' hfr hW => ?_)
      · by_cases hlo : l = .obj id
        · subst hlo
          by_cases hm : i = m
          · rw [hm]; exact hC0 (hm ▸ hif)
          · exact absurd hl' (hclean i hio hx hm).1
        · exact hN l hlo hl'
      refine ih (listed.setIfInBounds i true) G' w' a' (by simpa using hsz) hcnt' hcl' hg' has' (hfr.defers.trans hdf) (fun l hlo => ?_) (fun hmm => ?_) fun hmm => ?_
      · rw [hX]
        by_cases hl' : l ∈ wrM I id ft i
        · rw [hlast1 l hlo hl']; exact hW l (hwi ▸ hl')
        · rw [hlast0 l hl']; exact hfr.keep (hwi ▸ hl') (hrep l hlo)
      · rw [hget] at hmm
        by_cases hm : i = m
        · rw [if_pos hm.symm] at hmm; cases hmm
        · rw [if_neg (Ne.symm hm)] at hmm
          exact hfr.keep (hclean i hio hx hm).2 (hC0 hmm)
      · rw [hX, entsOf_skip hx]
        by_cases hm : i = m
        · subst hm
          refine ⟨[], ?_, ?_⟩
          · rw [entsOf_none fun k hk hlk => ?_]
            cases hik : I k with
            | none => rfl
            | some e =>
              exfalso
              have hok : ops.toList[k]? = some ops[k] := by rw [Array.getElem?_toList]; exact Array.getElem?_eq_getElem hk
              have := ancs_spec (fun k => listed.getD k false = true) ops.toList k i _ hcl hok (fun e hem hbd => hcl k _ hok hlk e hem hbd) (hIS k hk (by rw [hik]; rfl)).2.2
              have h1 : listed.getD i false = true := this
              rw [hif] at h1; cases h1
          · have := hW _ hmake.2.2.1
            simp only [RepL] at this ⊢
            rw [hmake.2.2.2] at this
            rw [T0_get]; exact this
        · obtain ⟨es, h1, h2⟩ := hC (by rw [hget, if_neg (Ne.symm hm)] at hmm; exact hmm)
          exact ⟨es, h1, hfr.keep (hclean i hio hx hm).2 h2⟩
    | some e =>
      have hwi : wrM I id ft i = [.obj id] := by unfold wrM; rw [hx]
      obtain ⟨hsm, hlt, hanc⟩ := hIS i hio (by rw [hx]; rfl)
      have hmt : listed.getD m false = true := ancs_spec (fun k => listed.getD k false = true) ops.toList i m o hcl hol (fun e hem hbd => hedge e hem hbd) hanc
      obtain ⟨es, h1, h2⟩ := hC hmt
      have hp : (es ++ [e]).Perm (entsOf I (fun k => if k = i then true else listed.getD k false) ops.size) := (h1.append_right _).trans (entsOf_put hx hif hio)
      have hkk : keysB (es ++ [e]) = true := keysB_perm hp (keysB_sub entsOf_sub hkeys)
      have hf := hI i o e es ho hx hkk
      refine wpOp_of ho (hf.run B G w a hg has (dstsOk.at hd ho) (fun l hl' => ?_) _ _ fun G' w' a' hg' has' hfr hW => ?_)
      · by_cases hlo : l = .obj id
        · subst hlo; exact hrepM hlt h2
        · exact (hN l hlo hl').congr (St.wM_same _ id es l hlo)
      refine ih (listed.setIfInBounds i true) G' w' a' (by simpa using hsz) hcnt' hcl' hg' has' (hfr.defers.trans hdf) (fun l hlo => ?_) (fun hmm => ?_) fun hmm => ?_
      · have hl' : l ∉ wrM I id ft i := by rw [hwi]; simpa using hlo
        rw [hX, hlast0 l hl']
        exact hfr.keep (by simpa using hlo) (hrep l hlo)
      · rw [hget] at hmm
        split at hmm
        · cases hmm
        · rw [hmt] at hmm; cases hmm
      · rw [hX]
        refine ⟨es ++ [e], hp, ?_⟩
        have := hW (.obj id) (by simp)
        simp only [RepL] at this ⊢
        rw [T0_get]
        rw [show ((S i).wM id (es ++ [e])).H[id]? = some (.mp (.map (es ++ [e]))) from List.getElem?_set_self hlt] at this
        exact this
def mapChk (ops : Array Oper) (ft : List (List Loc × List Loc)) (I : List (Option (AV × AV))) (id m : Nat) : Bool :=
  Nat.blt m ops.size && ((I.getD m none).isNone && ((ft.getD m ([], [])).2.contains (.obj id) && (ordOk ops.toList (ftMs (fun i => I.getD i none) id ft) &&
    (List.range ops.size).all fun i => match I.getD i none with
      | some _ => ((ancs ops.toList).getD i 0).testBit m && Nat.blt m i
      | none => Nat.beq i m || (!(ft.getD i ([], [])).1.contains (.obj id) && !(ft.getD i ([], [])).2.contains (.obj id)))))
theorem RepL.drawn {G : Gh} {w : World} {a : Act} {st : St} {l : Loc} (hr : RepL G w a l st) : RepL G ({ w with drawn := w.drawn + 1 } : World) a l st := by
  have hx : Ext G w G ({ w with drawn := w.drawn + 1 } : World) := ⟨fun _ _ h => h, fun _ _ h => h, fun _ _ h => h, fun _ _ _ => rfl, fun _ _ h => h⟩
  cases l with
  | slot t => exact RepSlot.ext hr hx
  | obj i =>
    simp only [RepL] at hr ⊢
    cases hh : st.H[i]? with
    | none => rw [hh] at hr; exact hr
    | some o =>
      rw [hh] at hr
      cases o with
      | dead => trivial
      | mp es => obtain ⟨g, h1, h2, h3, h4⟩ := hr; exact ⟨g, h1, h2, h3, h4.keep (fun _ _ h => h) (fun _ _ _ => rfl) (fun _ hk => ⟨hk, rfl, fun _ h => h⟩) rfl⟩
      | cells t cs tg =>
        rcases hr with h0 | ⟨g, h1, h2, h3, vals, fz, h4, h5, h6, h7⟩
        · exact .inl h0
        exact .inr ⟨g, h1, h2, h3, vals, fz, h4, h5, h6, fun j c hc => let ⟨v, hv, ho, hrs⟩ := h7 j c hc; ⟨v, hv, ho, hrs.ext hx⟩⟩
  | tok i => exact hr
end Go.Pm
namespace Go.Pm
open Go Go.RowKit
set_option linter.unusedSimpArgs false
set_option linter.unusedVariables false
structure TI where
  desc : TypeDesc
  size : Nat
  bytes : Nat
  zv : Value
  zero : AV
  esz : Nat
  eby : Nat
  eqk : List Nat
def rep1 : Value → AV → Bool
  | .bool b, .bool c => b == c
  | .int k n, .int k' m => k == k' && n == m && k.wrap n == n
  | .string s, .str l => s.data.toList == l && Nat.ble l.length 1000000
  | .slice none 0 0, .list _ [] => true
  | .pointer none, .nilp => true
  | .nilFunc, .nilf => true
  | .nilIface, .nili => true
  | .map none, .any => true
  | _, _ => false
def repz : Value → AV → Bool
  | .agg vs, .agg cs => vs.toList.length == cs.length && (vs.toList.zip cs).all fun x => rep1 x.1 x.2
  | v, a => rep1 v a
theorem rep1_ok {v : Value} {a : AV} (h : rep1 v a = true) (F : Nat → Nat → Prop) (w : World) (ι : Nat → Option Nat) : Rep F w ι v a ∧ v.oneCell' = true := by
  unfold rep1 at h
  split at h
  · simp at h; subst h; exact ⟨.bool .., rfl⟩
  · simp at h; obtain ⟨⟨h1, h2⟩, h3⟩ := h; subst h1 h2; exact ⟨.int _ _ _ h3, rfl⟩
  · rename_i s l
    simp at h
    obtain ⟨h1, h2⟩ := h
    subst h1
    refine ⟨?_, rfl⟩
    have : (⟨s.data.toList.toArray⟩ : ByteArray) = s := by cases s; simp
    have h3 := Rep.str (F := F) (w := w) ι s.data.toList (by unfold maxLen; simp at h2 ⊢; omega)
    rw [this] at h3
    exact h3
  · exact ⟨.empty _ _ _ _ (by simp), rfl⟩
  · exact ⟨.nilp _, rfl⟩
  · exact ⟨.nilf _, rfl⟩
  · exact ⟨.nili _, rfl⟩
  · exact ⟨.any _ _, rfl⟩
  · cases h
theorem repz_ok {v : Value} {a : AV} (h : repz v a = true) (F : Nat → Nat → Prop) (w : World) (ι : Nat → Option Nat) : Rep F w ι v a := by
  unfold repz at h
  split at h
  · rename_i vs cs
    simp only [Bool.and_eq_true, beq_iff_eq, List.all_eq_true] at h
    obtain ⟨h1, h2⟩ := h
    have key : ∀ (i : Nat) (v : Value) (c : AV), vs.toList[i]? = some v → cs[i]? = some c → rep1 v c = true := fun i v c hv hc =>
      h2 (v, c) (List.mem_of_getElem? (i := i) (by rw [List.getElem?_zip_eq_some]; exact ⟨hv, hc⟩))
    have := Rep.agg (F := F) (w := w) ι vs.toList cs h1 (fun v hv => by
      obtain ⟨i, hi, rfl⟩ := List.getElem_of_mem hv
      exact (rep1_ok (key i _ _ (List.getElem?_eq_getElem hi) (List.getElem?_eq_getElem (by omega))) F w ι).2) fun i v c hv hc => (rep1_ok (key i v c hv hc) F w ι).1
    simpa using this
  · exact (rep1_ok h F w ι).1
def eltOk (P : Program) (ti : TI) : Bool :=
  match ti.desc with
  | .slice e | .array _ e => match P.info? e with
    | some i => i.size == ti.esz && i.bytes == ti.eby && (match i.zero with | some z => z.cells.size == i.size && z.cells.toList.all (·.oneCell') | none => false)
    | none => false
  | _ => true
def fldOk (P : Program) (ti : TI) : Bool :=
  match ti.desc with
  | .struct fs => fs.toList.all fun f => match P.info? f.type with | some i => i.size != 0 | none => false
  | _ => true
def eqFld (P : Program) : List Nat → List Field → Nat → Bool
  | [], [], _ => true
  | k :: ks, f :: fs, off => f.offset == off && f.name != "_" && (match P.underlying f.type with | some .string => k == 0 | some .bool => k == 1 | some (.int _) => k == 2 | _ => false) && eqFld P ks fs (off + 1)
  | _, _, _ => false
def eqTyOk (P : Program) (t : TypeId) (ks : List Nat) : Bool :=
  (match P.underlying t with | some (.struct fs) => eqFld P ks fs.toList 0 | _ => false) && !P.stoodInHeld t && !P.eqGuardType P.depth t
structure TFact (P : Program) (t : TypeId) (ti : TI) : Prop where
  under : P.underlying t = some ti.desc
  info : (P.info? t).map (fun i => (i.size, i.bytes, i.zero)) = some (ti.size, ti.bytes, some ti.zv)
  zero : repz ti.zv ti.zero = true
  elem : eltOk P ti = true
  flds : fldOk P ti = true
  eqs : (ti.eqk.isEmpty || eqTyOk P t ti.eqk) = true
def isAggD : TypeDesc → Bool
  | .struct _ | .array _ _ => true
  | _ => false
section
variable {P : Program} {t : TypeId} {ti : TI} (h : TFact P t ti) (w : World)
include h
theorem TFact.info_some : ∃ i, P.info? t = some i ∧ i.size = ti.size ∧ i.bytes = ti.bytes ∧ i.zero = some ti.zv := by
  have := h.info
  cases hi : P.info? t with
  | none => rw [hi] at this; cases this
  | some i => rw [hi] at this; simp at this; exact ⟨i, rfl, this⟩
theorem TFact.run_size : (sizeOf t).run P w = .ok ti.size w := by
  obtain ⟨i, hi, hs, _⟩ := h.info_some
  simp [sizeOf, typeInfo, hi, hs]
theorem TFact.run_zero : (zeroValue t).run P w = .ok ti.zv w := by
  obtain ⟨i, hi, _, _, hz⟩ := h.info_some
  simp [zeroValue, typeInfo, hi, hz]
theorem TFact.run_agg : (isAgg t).run P w = .ok (isAggD ti.desc) w := by
  simp only [isAgg, Sem.run_bind, run_underlying h.under, Result.andThen_ok]
  cases ti.desc <;> rfl
theorem TFact.elem_info {e : TypeId} (he : ti.desc = .slice e ∨ ∃ n, ti.desc = .array n e) : ∃ i z, P.info? e = some i ∧ i.size = ti.esz ∧ i.bytes = ti.eby ∧ i.zero = some z ∧ z.cells.size = i.size ∧ ∀ v, v ∈ z.cells.toList → v.oneCell' = true := by
  have h1 := h.elem
  have h2 : (match P.info? e with
    | some i => i.size == ti.esz && i.bytes == ti.eby && (match i.zero with | some z => z.cells.size == i.size && z.cells.toList.all (·.oneCell') | none => false)
    | none => false) = true := by
    rcases he with he | ⟨n, he⟩ <;> (unfold eltOk at h1; rw [he] at h1; exact h1)
  cases hi : P.info? e with
  | none => rw [hi] at h2; cases h2
  | some i =>
    rw [hi] at h2
    simp only [Bool.and_eq_true, beq_iff_eq] at h2
    obtain ⟨⟨h3, h4⟩, h5⟩ := h2
    cases hz : i.zero with
    | none => rw [hz] at h5; cases h5
    | some z => 
      rw [hz] at h5
      simp only [Bool.and_eq_true, beq_iff_eq, List.all_eq_true] at h5
      exact ⟨i, z, rfl, h3, h4, hz, h5.1, h5.2⟩
theorem TFact.run_esz {e : TypeId} (he : ti.desc = .slice e ∨ ∃ n, ti.desc = .array n e) : (sizeOf e).run P w = .ok ti.esz w := by
  obtain ⟨i, z, hi, hs, _⟩ := h.elem_info he
  simp [sizeOf, typeInfo, hi, hs]
theorem TFact.run_fieldPlace {fs : Array Field} (hd : ti.desc = .struct fs) {n : Nat} {f : Field} (hf : fs[n]? = some f) (a : Addr) : (fieldPlace a f).run P w = .ok (a.add f.offset) w := by
  have h1 := h.flds
  unfold fldOk at h1
  rw [hd] at h1
  simp only [List.all_eq_true] at h1
  have h2 := h1 f (by rw [← Array.getElem?_toList] at hf; exact List.mem_of_getElem? hf)
  cases hi : P.info? f.type with
  | none => rw [hi] at h2; cases h2
  | some i =>
    rw [hi] at h2
    have h3 : ¬ i.size = 0 := by simpa using h2
    simp [fieldPlace, sizeOf, typeInfo, hi, h3]
end
abbrev Tab := List (TypeId × TI)
def Tab.at (T : Tab) (t : TypeId) : Option TI :=
  match T with
  | [] => none
  | (u, i) :: r => bif Nat.beq t u then some i else Tab.at r t
def TOk (P : Program) (T : Tab) : Prop := ∀ t i, T.at t = some i → TFact P t i
theorem TOk.nil (P : Program) : TOk P [] := fun _ _ h => by cases h
theorem TOk.cons {P : Program} {T : Tab} {t : TypeId} {i : TI} (h : TFact P t i) (hT : TOk P T) : TOk P ((t, i) :: T) := fun u j hu => by
  unfold Tab.at at hu
  cases hb : Nat.beq u t with
  | true => rw [hb] at hu; injection hu with hu; subst hu; rw [Nat.eq_of_beq_eq_true hb]; exact h
  | false => rw [hb] at hu; exact hT u j hu
def evC (T : Tab) (ty : TypeId) : Value → AV
  | .bool b => .bool b
  | .int k n => .int k n
  | .string s => .str s.data.toList
  | .pointer none => .nilp
  | .nilFunc => .nilf
  | .nilIface => .nili
  | .slice none 0 0 => .list (match T.at ty with | some ti => ti.esz | none => 0) []
  | .agg _ => match T.at ty with | some ti => ti.zero | none => .any
  | _ => .any
def evV (T : Tab) (st : St) (ty : TypeId) : Operand → AV
  | .tmp t => st.s t
  | .const v => evC T ty v
  | .global g => .glob g
  | .func f => .fn f [] []
def tgV (st : St) : Operand → Option Nat
  | .tmp t => st.g t
  | _ => none
def opN : Operand → List Loc
  | .tmp t => [.slot t]
  | _ => []
def cOk (T : Tab) (ty : TypeId) : Operand → Bool
  | .const v => repz v (evC T ty v)
  | _ => true
theorem evV_ok {E : Env} {B : Base} {T : Tab} {st : St} {ty : TypeId} {x : Operand} {G : Gh} {w : World} {a : Act} (_hg : Good E B G w) (hc : cOk T ty x = true) (hN : ∀ l, l ∈ opN x → RepL G w a l st) :
    RepSlot G w (a.eval x) (evV T st ty x) (tgV st x) := by
  cases x with
  | tmp t => exact hN (.slot t) (by simp [opN])
  | const v => exact ⟨repz_ok hc _ _ _, trivial⟩
  | global g => exact ⟨.glob .., trivial⟩
  | func f => exact ⟨.fn _ _ [] [] [] [] rfl rfl (by simp) (by simp), trivial⟩
def upd {α : Type} (f : Nat → α) (d : Nat) (v : α) : Nat → α := fun t => bif Nat.beq t d then v else f t
theorem upd_same {α : Type} (f : Nat → α) (d : Nat) (v : α) : upd f d v d = v := by simp [upd]
theorem upd_other {α : Type} (f : Nat → α) {d t : Nat} (v : α) (h : t ≠ d) : upd f d v t = f t := by
  have : Nat.beq t d = false := by simpa [← Nat.beq_eq] using h
  simp [upd, this]
def St.put (st : St) (dst : Option Nat) (v : AV) (tag : Option Nat) (H : List AObj) (k : List Nat) : St :=
  match dst with
  | some d => { s := upd st.s d v, g := upd st.g d tag, H := H, k := k }
  | none => { st with H := H, k := k }
def dstW : Option Nat → List Loc
  | some d => [.slot d]
  | none => []
def guardT (ops : Array Oper) (o : Oper) : Option Nat :=
  match o.guard with
  | none => none
  | some (j, _) => (ops[j]?).bind (·.dst)
def guardN (ops : Array Oper) (o : Oper) : List Loc :=
  match guardT ops o with
  | some t => [.slot t]
  | none => []
def guardE (ops : Array Oper) (o : Oper) (st : St) (k : Bool → Prop) : Prop :=
  match o.guard with
  | none => k true
  | some (_, want) => match guardT ops o with
    | none => False
    | some t => match st.s t with
      | .bool b => k (bif want then b else !b)
      | .cond c (.bool b) => k (c && (bif want then b else !b))
      | _ => False
theorem yielded_of {ops : Array Oper} {a : Act} {j t : Nat} (ht : (ops[j]?).bind (·.dst) = some t) : yielded ops a.tmps j = match a.tmps.getD t undef with | .bool b => some b | _ => none := by
  unfold yielded
  rw [ht, Array.getD_eq_getD_getElem?]
  simp only [Option.bind_some]
  cases h : a.tmps[t]? with
  | none => simp [undef]
  | some v => cases v <;> simp
theorem guardE_ok {ops : Array Oper} {o : Oper} {st : St} {k : Bool → Prop} (h : guardE ops o st k) :
    ∃ g, k g ∧ (o.guard = none → g = true) ∧ ∀ (G : Gh) (w : World) (a : Act), (∀ l, l ∈ guardN ops o → RepL G w a l st) → Region.wanted o (yielded ops a.tmps) = g := by
  unfold guardE at h
  split at h
  · rename_i hg
    exact ⟨true, h, fun _ => rfl, fun G w a _ => by simp [Region.wanted, hg]⟩
  · rename_i j want hg
    split at h
    · exact h.elim
    · rename_i t ht
      have ht' : (ops[j]?).bind (·.dst) = some t := by simpa [guardT, hg] using ht
      have hN : ∀ (G : Gh) (w : World) (a : Act), (∀ l, l ∈ guardN ops o → RepL G w a l st) → Rep G.F w G.ι (a.tmps.getD t undef) (st.s t) := fun G w a h =>
        (h (.slot t) (by simp [guardN, ht])).1
      split at h
      · rename_i b hb
        refine ⟨_, h, fun h => (by rw [hg] at h; cases h), fun G w a hr => ?_⟩
        have h1 := hN G w a hr
        rw [hb] at h1
        simp only [Region.wanted, hg, yielded_of ht']
        generalize a.tmps.getD t undef = v at h1
        cases h1
        cases b <;> cases want <;> rfl
      · rename_i c b hb
        refine ⟨_, h, fun h => (by rw [hg] at h; cases h), fun G w a hr => ?_⟩
        have h1 := hN G w a hr
        rw [hb] at h1
        simp only [Region.wanted, hg, yielded_of ht']
        generalize a.tmps.getD t undef = v at h1
        cases h1 with
        | cond0 => simp [undef]
        | cond1 _ _ _ h2 => cases h2; cases b <;> cases want <;> rfl
      · exact h.elim
structure FrH (G : Gh) (w : World) (G' : Gh) (w' : World) (W : List Loc) : Prop where
  ext : Ext G w G' w'
  obj : ∀ i c, .obj i ∉ W → RepObj G w i c → RepObj G' w' i c
  tok : ∀ i c, .tok i ∉ W → RepTok G w i c → RepTok G' w' i c
theorem FrH.refl (G : Gh) (w : World) : FrH G w G w [] := ⟨.refl _ _, fun _ _ _ h => h, fun _ _ _ h => h⟩
def RepH (G : Gh) (w : World) (H : List AObj) (k : List Nat) : Loc → Prop
  | .slot _ => True
  | .obj i => RepObj G w i H[i]?
  | .tok i => RepTok G w i k[i]?
structure HFact (E : Env) (P : Program) (st : St) (o : Oper) (r : AV) (tag : Option Nat) (H : List AObj) (k : List Nat) (N W : List Loc) : Prop where
  noslot : ∀ t, .slot t ∉ W
  same : ∀ l, l ∉ W → match l with | .slot _ => True | .obj i => st.H[i]? = H[i]? | .tok i => st.k[i]? = k[i]?
  run : ∀ (B : Base) (G : Gh) (w : World) (a : Act), Good E B G w → (∀ l, l ∈ N → RepL G w a l st) → ∀ (K : Act → World → Prop) (Q : Exit → Act → World → Prop),
    (∀ G' w' v, Good E B G' w' → FrH G w G' w' W → RepSlot G' w' v r tag → (∀ l, l ∈ W → RepH G' w' H k l) → K (a.put o.dst v) w') → o.wp P a w K Q
theorem getD_put_same {a : Act} {d : Nat} {v : Value} (h : d < a.tmps.size) : (a.put (some d) v).tmps.getD d undef = v := by
  simp [Act.put, h]
theorem getD_put_other {a : Act} {d t : Nat} {v : Value} (h : t ≠ d) : (a.put (some d) v).tmps.getD t undef = a.tmps.getD t undef := by
  simp [Act.put, Array.getElem?_setIfInBounds_ne (Ne.symm h)]
theorem size_put (a : Act) (d : Option Nat) (v : Value) : (a.put d v).tmps.size = a.tmps.size := by cases d <;> simp [Act.put]
theorem defers_put (a : Act) (d : Option Nat) (v : Value) : (a.put d v).defers = a.defers := by cases d <;> rfl
theorem put_fr {G G' : Gh} {w w' : World} {a : Act} {dst : Option Nat} {v : Value} {W : List Loc} (h : FrH G w G' w' W) : Fr G w a G' w' (a.put dst v) (dstW dst ++ W) := by
  refine ⟨h.ext, fun t ht => ?_, fun i c hi => h.obj i c (fun hm => hi (List.mem_append_right _ hm)), fun i c hi => h.tok i c (fun hm => hi (List.mem_append_right _ hm)), defers_put ..⟩
  cases dst with
  | none => rfl
  | some d => exact getD_put_other (fun e => ht (by simp [dstW, e]))
theorem put_same {st : St} {dst : Option Nat} {v : AV} {tag : Option Nat} {H : List AObj} {k : List Nat} {W : List Loc}
    (h : ∀ l, l ∉ W → match l with | .slot _ => True | .obj i => st.H[i]? = H[i]? | .tok i => st.k[i]? = k[i]?) : ∀ l, l ∉ dstW dst ++ W → SameAt l st (st.put dst v tag H k) := by
  intro l hl
  have h1 := h l (fun hm => hl (List.mem_append_right _ hm))
  cases l with
  | slot t =>
    cases dst with
    | none => exact ⟨rfl, rfl⟩
    | some d =>
      have : t ≠ d := fun e => hl (by simp [dstW, e])
      exact ⟨(upd_other _ _ this).symm, (upd_other _ _ this).symm⟩
  | obj i => cases dst <;> exact h1
  | tok i => cases dst <;> exact h1
theorem put_rep {G : Gh} {w : World} {a : Act} {st : St} {dst : Option Nat} {v : Value} {r : AV} {tag : Option Nat} {H : List AObj} {k : List Nat} {W : List Loc} (hd : ∀ d, dst = some d → d < a.tmps.size)
    (hs : ∀ t, .slot t ∉ W) (hr : RepSlot G w v r tag) (hW : ∀ l, l ∈ W → RepH G w H k l) : ∀ l, l ∈ dstW dst ++ W → RepL G w (a.put dst v) l (st.put dst r tag H k) := by
  intro l hl
  rcases List.mem_append.1 hl with hl | hl
  · cases dst with
    | none => simp [dstW] at hl
    | some d =>
      simp only [dstW, List.mem_singleton] at hl
      subst hl
      simp only [RepL, St.put, upd_same]
      rw [getD_put_same (hd d rfl)]
      exact hr
  · have := hW l hl
    cases l with
    | slot t => exact absurd hl (hs t)
    | obj i => cases dst <;> exact this
    | tok i => cases dst <;> exact this
theorem step_do {E : Env} {P : Program} {ops : Array Oper} {o : Oper} {st : St} {r : AV} {tag : Option Nat} {H : List AObj} {k : List Nat} {N W : List Loc}
    (hg : ∀ (G : Gh) (w : World) (a : Act), (∀ l, l ∈ guardN ops o → RepL G w a l st) → Region.wanted o (yielded ops a.tmps) = true) (h : HFact E P st o r tag H k N W) :
    StepFact E P ops o st (st.put o.dst r tag H k) (guardN ops o ++ N) (dstW o.dst ++ W) := by
  refine ⟨put_same h.same, fun B G w a hgood hsz hd hN K Q hK => ?_⟩
  rw [if_pos (hg G w a fun l hl => hN l (List.mem_append_left _ hl))]
  refine h.run B G w a hgood (fun l hl => hN l (List.mem_append_right _ hl)) K Q fun G' w' v hg' hfr hrep hW => ?_
  exact hK G' w' _ hg' (by rw [size_put]; exact hsz) (put_fr hfr) (put_rep (fun d e => by rw [hsz]; exact hd d e) h.noslot hrep hW)
theorem step_skip {E : Env} {P : Program} {ops : Array Oper} {o : Oper} {st : St}
    (hg : ∀ (G : Gh) (w : World) (a : Act), (∀ l, l ∈ guardN ops o → RepL G w a l st) → Region.wanted o (yielded ops a.tmps) = false) (r : AV) :
    StepFact E P ops o st (st.put o.dst (.cond false r) none st.H st.k) (guardN ops o) (dstW o.dst ++ []) := by
  refine ⟨put_same (fun l _ => by cases l <;> trivial), fun B G w a hgood hsz hd hN K Q hK => ?_⟩
  rw [if_neg (by rw [hg G w a hN]; simp)]
  exact hK G w _ hgood (by rw [size_put]; exact hsz) (put_fr (.refl _ _)) (put_rep (fun d e => by rw [hsz]; exact hd d e) (by simp) ⟨.cond0 .., trivial⟩ (by simp))
theorem step_cond {E : Env} {P : Program} {ops : Array Oper} {o : Oper} {st : St} {g : Bool} {r : AV} {N : List Loc}
    (hg : ∀ (G : Gh) (w : World) (a : Act), (∀ l, l ∈ guardN ops o → RepL G w a l st) → Region.wanted o (yielded ops a.tmps) = g) (h : g = true → ∃ tag, HFact E P st o r tag st.H st.k N []) :
    StepFact E P ops o st (st.put o.dst (.cond g r) none st.H st.k) (guardN ops o ++ N) (dstW o.dst ++ []) := by
  cases g with
  | false =>
    have := step_skip (E := E) (P := P) hg r
    exact ⟨this.same, fun B G w a h1 h2 h3 h4 => this.run B G w a h1 h2 h3 fun l hl => h4 l (List.mem_append_left _ hl)⟩
  | true =>
    obtain ⟨tag, h⟩ := h rfl
    refine step_do hg ⟨h.noslot, h.same, fun B G w a h1 h2 K Q hK => h.run B G w a h1 h2 K Q fun G' w' v h3 h4 h5 h6 => hK G' w' v h3 h4 ⟨.cond1 _ _ _ h5.1, trivial⟩ h6⟩
theorem HFact.value {E : Env} {P : Program} {st : St} {o : Oper} {r : AV} {tag : Option Nat} {N : List Loc}
    (h : ∀ (B : Base) (G : Gh) (w : World) (a : Act), Good E B G w → (∀ l, l ∈ N → RepL G w a l st) → ∃ v, (execOp a.eval o).run P w = .ok (.value v) w ∧ RepSlot G w v r tag) : HFact E P st o r tag st.H st.k N [] := by
  refine ⟨by simp, fun l _ => by cases l <;> trivial, fun B G w a hg hN K Q hK => ?_⟩
  obtain ⟨v, hr, hrep⟩ := h B G w a hg hN
  unfold Oper.wp
  rw [hr]
  exact hK G w v hg (.refl _ _) hrep (by simp)
end Go.Pm
