/- An abstract machine over this model: values and memory by themselves, and how they lie in a world. No conditions: definitions and lemmas alone. -/
import Derived.Below
import Derived.Orders
import Derived.Laws.World
import Derived.Tactics
import Derived.KernelRfl
import Derived.ScopeJumps
import Derived.RangeFuncRecord
import Derived.TacticsIn
import Derived.LoopNIn
import Derived.RangeFuncSeq
import Derived.Laws.Entries
namespace Go.Proofs.Ytbdejnnbpdgjlaa.Ax
open Go Go.RowKit
set_option linter.unusedVariables false
set_option linter.unusedSimpArgs false
structure Loc where
 g : Nat
 base : Nat
 lim : Nat
 sz : Nat
abbrev Inj := Nat → Option Loc
structure Base where
 n : Nat
 d : Nat
instance : CoeOut Base Nat := ⟨Base.n⟩
def capLow : Nat := 4611686018427387904
def capOk (c c' : Nat) : Prop := c' = c ∨ (capLow ≤ c ∧ c ≤ capLow + c')
mutual
inductive VRel (ι : Inj) : Value → Value → Prop
 | bool (b : Bool) : VRel ι (.bool b) (.bool b)
 | int (k : IntKind) (n : Int) : VRel ι (.int k n) (.int k n)
 | string (s : ByteArray) : VRel ι (.string s) (.string s)
 | ptrNil : VRel ι (.pointer none) (.pointer none)
 | ptr (b off : Nat) (l : Loc) (h : ι b = some l) : VRel ι (.pointer (some ⟨b, off, none⟩)) (.pointer (some ⟨l.g, l.base + off, none⟩))
 | sliceNil : VRel ι (.slice none 0 0) (.slice none 0 0)
 | slice (b off len cap cap' : Nat) (l : Loc) (a' : Addr) (h : ι b = some l) (hl : len ≤ cap') (hc : capOk cap cap')
   (ha : cap' = 0 ∨ (a' = ⟨l.g, l.base + off, none⟩ ∧ l.base + off + cap' * l.sz ≤ l.lim)) : VRel ι (.slice (some ⟨b, off, none⟩) len cap) (.slice (some a') len cap')
 | mapNil : VRel ι (.map none) (.map none)
 | map (b : Nat) (l : Loc) (h : ι b = some l) : VRel ι (.map (some b)) (.map (some l.g))
 | func (fn : Fn) (hy : ∀ l, fn ≠ .yield l) (xs ys us vs : List Value) (h : LRel ι xs ys) (h' : LRel ι us vs) : VRel ι (.func fn ⟨xs⟩ ⟨us⟩) (.func fn ⟨ys⟩ ⟨vs⟩)
 | yield (b : Nat) (l : Loc) (h : ι b = some l) : VRel ι (.func (.yield b) #[] #[]) (.func (.yield l.g) #[] #[])
 | nilFunc : VRel ι .nilFunc .nilFunc
 | nilIface : VRel ι .nilIface .nilIface
 | agg (xs ys : List Value) (h : LRel ι xs ys) : VRel ι (.agg ⟨xs⟩) (.agg ⟨ys⟩)
 | tuple (xs ys : List Value) (h : LRel ι xs ys) : VRel ι (.tuple ⟨xs⟩) (.tuple ⟨ys⟩)
inductive LRel (ι : Inj) : List Value → List Value → Prop
 | nil : LRel ι [] []
 | cons (x y : Value) (xs ys : List Value) (h : VRel ι x y) (t : LRel ι xs ys) : LRel ι (x :: xs) (y :: ys)
end
theorem VRel.mono {ι ι' : Inj} (hi : ∀ b l, ι b = some l → ι' b = some l) {v v' : Value} (h : VRel ι v v') : VRel ι' v v' :=
 h.rec (motive_1 := fun v v' _ => VRel ι' v v') (motive_2 := fun xs ys _ => LRel ι' xs ys)
  .bool .int .string .ptrNil (fun b off l h => .ptr b off l (hi _ _ h)) .sliceNil
  (fun b off len cap cap' l a' h hl hc ha => .slice b off len cap cap' l a' (hi _ _ h) hl hc ha) .mapNil
  (fun b l h => .map b l (hi _ _ h)) (fun fn hy xs ys us vs _ _ h h' => .func fn hy xs ys us vs h h') (fun b l h => .yield b l (hi _ _ h)) .nilFunc .nilIface (fun xs ys _ h => .agg xs ys h) (fun xs ys _ h => .tuple xs ys h)
  .nil (fun x y xs ys _ _ h t => .cons x y xs ys h t)
theorem LRel.mono {ι ι' : Inj} (hi : ∀ b l, ι b = some l → ι' b = some l) {v v' : List Value} (h : LRel ι v v') : LRel ι' v v' := by
 induction v generalizing v' with
 | nil => cases h; exact .nil
 | cons x xs ih => cases h with | cons x y xs ys h t => exact .cons _ _ _ _ (h.mono hi) (ih t)
theorem LRel.length {ι : Inj} {xs ys : List Value} (h : LRel ι xs ys) : xs.length = ys.length := by
 induction xs generalizing ys with
 | nil => cases h; rfl
 | cons x xs ih => cases h with | cons x y xs ys h t => simp [ih t]
theorem LRel.get {ι : Inj} {xs ys : List Value} (h : LRel ι xs ys) {j : Nat} {v : Value} (hj : xs[j]? = some v) : ∃ v', ys[j]? = some v' ∧ VRel ι v v' := by
 induction xs generalizing ys j with
 | nil => simp at hj
 | cons x xs ih =>
  cases h with
  | cons x y xs ys h t =>
   cases j with
   | zero => simp at hj; subst hj; exact ⟨y, rfl, h⟩
   | succ j => simp at hj; obtain ⟨v', h1, h2⟩ := ih t hj; exact ⟨v', by simpa using h1, h2⟩
theorem LRel.append {ι : Inj} {xs ys us vs : List Value} (h : LRel ι xs ys) (h' : LRel ι us vs) : LRel ι (xs ++ us) (ys ++ vs) := by
 induction xs generalizing ys with
 | nil => cases h; exact h'
 | cons x xs ih => cases h with | cons x y xs ys h t => exact .cons _ _ _ _ h (ih t)
theorem LRel.take {ι : Inj} {xs ys : List Value} (h : LRel ι xs ys) (n : Nat) : LRel ι (xs.take n) (ys.take n) := by
 induction xs generalizing ys n with
 | nil => cases h; cases n <;> exact .nil
 | cons x xs ih =>
  cases h with
  | cons x y xs ys h t =>
   cases n with
   | zero => exact .nil
   | succ n => exact .cons _ _ _ _ h (ih t n)
theorem LRel.drop {ι : Inj} {xs ys : List Value} (h : LRel ι xs ys) (n : Nat) : LRel ι (xs.drop n) (ys.drop n) := by
 induction n generalizing xs ys with
 | zero => exact h
 | succ n ih => cases h with
  | nil => exact .nil
  | cons x y xs ys h t => exact ih t
theorem LRel.set {ι : Inj} {xs ys : List Value} (h : LRel ι xs ys) (n : Nat) {v v' : Value} (hv : VRel ι v v') : LRel ι (xs.set n v) (ys.set n v') := by
 induction xs generalizing ys n with
 | nil => cases h; exact .nil
 | cons x xs ih =>
  cases h with
  | cons x y xs ys h t =>
   cases n with
   | zero => exact .cons _ _ _ _ hv t
   | succ n => exact .cons _ _ _ _ h (ih t n)
theorem LRel.replicate {ι : Inj} {v v' : Value} (hv : VRel ι v v') : ∀ n, LRel ι (List.replicate n v) (List.replicate n v')
 | 0 => .nil
 | n + 1 => .cons _ _ _ _ hv (LRel.replicate hv n)
theorem LRel.of_get {ι : Inj} {xs ys : List Value} (hl : xs.length = ys.length) (h : ∀ (j : Nat) v, xs[j]? = some v → ∃ v', ys[j]? = some v' ∧ VRel ι v v') : LRel ι xs ys := by
 induction xs generalizing ys with
 | nil => cases ys with | nil => exact .nil | cons _ _ => simp at hl
 | cons x xs ih =>
  cases ys with
  | nil => simp at hl
  | cons y ys =>
   refine .cons _ _ _ _ ?_ (ih (by simpa using hl) (fun j v hj => by simpa using h (j + 1) v (by simpa using hj)))
   obtain ⟨v', h1, h2⟩ := h 0 x rfl
   simp at h1; subst h1; exact h2
def flat : Value → Bool
 | .bool _ | .int _ _ | .string _ | .pointer none | .slice none 0 0 | .map none | .nilFunc | .nilIface => true
 | _ => false
def plain : Value → Bool
 | .agg cs => cs.toList.all flat
 | .tuple cs => cs.toList.all flat
 | v => flat v
theorem VRel.of_flat {ι : Inj} {v : Value} (h : flat v = true) : VRel ι v v := by
 unfold flat at h
 split at h <;> first | constructor | cases h
theorem LRel.of_flat {ι : Inj} {l : List Value} (h : l.all flat = true) : LRel ι l l := by
 induction l with
 | nil => exact .nil
 | cons x xs ih => simp at h; exact .cons _ _ _ _ (VRel.of_flat h.1) (ih (by simpa using h.2))
theorem VRel.of_plain {ι : Inj} {v : Value} (h : plain v = true) : VRel ι v v := by
 unfold plain at h
 split at h
 ·rename_i cs; obtain ⟨l⟩ := cs; exact .agg _ _ (LRel.of_flat h)
 ·rename_i cs; obtain ⟨l⟩ := cs; exact .tuple _ _ (LRel.of_flat h)
 ·exact VRel.of_flat h
theorem VRel.flat_eq {ι : Inj} {v v' : Value} (hv : VRel ι v v') (h : flat v = true) : v' = v := by
 cases hv <;> first | rfl | (simp [flat] at h)
theorem LRel.flat_eq {ι : Inj} {l l' : List Value} (hv : LRel ι l l') (h : l.all flat = true) : l' = l := by
 induction l generalizing l' with
 | nil => cases hv; rfl
 | cons x xs ih =>
  cases hv with
  | cons x y xs ys h1 t => simp at h; rw [h1.flat_eq h.1, ih t (by simpa using h.2)]
inductive Blk where
 | box (cs : List Value)
 | row (own : Bool) (sz : Nat) (cs : List Value)
 | map (es : List (Value × Value))
 | loop (st : LoopState) (pend : Option Code) (t : List Value) (ps : Array Tmp) (assign body : Code)
 | dead
abbrev Mem := List Blk
def Blk.cells : Blk → List Value
 | .box cs => cs
 | .row _ _ cs => cs
 | _ => []
def Blk.put (b : Blk) (cs : List Value) : Blk := match b with
 | .box _ => .box cs
 | .row o s _ => .row o s cs
 | b => b
def Blk.ours : Blk → Bool
 | .box _ => true
 | .row o _ _ => o
 | .map _ => true
 | .loop .. => true
 | .dead => false
def Blk.esz : Blk → Nat
 | .row _ s _ => s
 | .box _ => 1
 | _ => 0
def ERel (ι : Inj) : List (Value × Value) → List MapEntry → Prop
 | [], [] => True
 | (k, v) :: es, e :: fs => VRel ι k e.key ∧ VRel ι v e.val ∧ ERel ι es fs
 | _, _ => False
theorem ERel.mono {ι ι' : Inj} (hi : ∀ b l, ι b = some l → ι' b = some l) : ∀ {es : List (Value × Value)} {fs : List MapEntry}, ERel ι es fs → ERel ι' es fs
 | [], [], _ => trivial
 | (k, v) :: es, e :: fs, h => ⟨h.1.mono hi, h.2.1.mono hi, ERel.mono hi h.2.2⟩
def BRel (ι : Inj) (N0 : Base) (w : World) (l : Loc) : Blk → Prop
 | .box cs => N0 ≤ l.g ∧ l.sz = 1 ∧ ∃ cc e, w.heap[l.g]? = some (.cells cc e (0, 0)) ∧ l.base + cs.length ≤ l.lim ∧ l.lim ≤ cc.size ∧ ∀ j v, cs[j]? = some v → ∃ v', cc[l.base + j]? = some v' ∧ VRel ι v v'
 | .row true sz cs => N0 ≤ l.g ∧ l.sz = sz ∧ ∃ cc e, w.heap[l.g]? = some (.cells cc e (0, 0)) ∧ l.base + cs.length ≤ l.lim ∧ l.lim ≤ cc.size ∧ ∀ j v, cs[j]? = some v → ∃ v', cc[l.base + j]? = some v' ∧ VRel ι v v'
 | .row false sz cs => l.g < N0 ∧ l.sz = sz ∧ ∃ cc e f, w.heap[l.g]? = some (.cells cc e f) ∧ ∀ j v, cs[j]? = some v → ∃ v', cc[l.base + j]? = some v' ∧ VRel ι v v'
 | .map es => N0 ≤ l.g ∧ ∃ fs c, w.heap[l.g]? = some (.map fs c) ∧ ERel ι es fs.toList
 | .loop st pend t ps assign body => N0 ≤ l.g ∧ ∃ r : Loop, w.heap[l.g]? = some (.loop r) ∧ (r.state = st ∧ r.pending = pend ∧ r.params = ps ∧ r.assign = assign ∧ r.body = body) ∧ LRel ι t r.tmps.toList
 | .dead => True
structure MRel (ι : Inj) (N0 : Base) (M : Mem) (w : World) : Prop where
 blk : ∀ b B l, M[b]? = some B → ι b = some l → BRel ι N0 w l B
 dom : ∀ b, M.length ≤ b → ι b = none
 inj : ∀ b b' B B' l l', M[b]? = some B → M[b']? = some B' → B.ours = true → B'.ours = true → ι b = some l → ι b' = some l' → l.g = l'.g → b = b'
 base : N0 ≤ w.heap.size
structure Low (N0 : Base) (w w' : World) : Prop where
 low : Below N0 w w'
 mark : ∀ r : Nat, w.heap[r]? = some (Obj.deferred (some [])) → w'.heap[r]? = some (Obj.deferred (some []))
theorem Low.refl (N0 : Base) (w : World) : Low N0 w w := ⟨Below.refl _ _, fun _ h => h⟩
theorem Low.trans {N0 : Base} {w w' w'' : World} (h : Low N0 w w') (k : Low N0 w' w'') : Low N0 w w'' := ⟨h.low.trans k.low, fun r hr => k.mark r (h.mark r hr)⟩
theorem Low.alloc {N0 : Base} {w w' : World} (h : Low N0 w w') (hB : N0.n ≤ w'.heap.size) (o : Obj) : Low N0 w (w'.alloc o) :=
 ⟨h.low.alloc hB o, fun r hr => (Below.heap_alloc _ _ _ (Array.getElem?_eq_some_iff.1 (h.mark r hr)).1).trans (h.mark r hr)⟩
theorem Low.drew {N0 : Base} {w w' : World} (h : Low N0 w w') : Low N0 w w'.drew := ⟨h.low.drew, h.mark⟩
structure Ext (ι : Inj) (N0 : Base) (M : Mem) (w : World) (ι' : Inj) (M' : Mem) (w' : World) : Prop where
 inj : ∀ b l, ι b = some l → ι' b = some l
 pend : ∀ b, b < M.length → ι b = none → ι' b = none ∧ M'[b]? = M[b]?
 len : M.length ≤ M'.length
 below : Low N0 w w'
theorem Ext.refl (ι : Inj) (N0 : Base) (M : Mem) (w : World) : Ext ι N0 M w ι M w := ⟨fun _ _ h => h, fun _ _ h => ⟨h, rfl⟩, Nat.le_refl _, Low.refl _ _⟩
theorem Ext.trans {ι ι' ι'' : Inj} {N0 : Base} {M M' M'' : Mem} {w w' w'' : World} (h : Ext ι N0 M w ι' M' w') (k : Ext ι' N0 M' w' ι'' M'' w'') : Ext ι N0 M w ι'' M'' w'' :=
 ⟨fun b l hb => k.inj b l (h.inj b l hb), fun b hb hn => by
  obtain ⟨h1, h2⟩ := h.pend b hb hn
  obtain ⟨k1, k2⟩ := k.pend b (Nat.lt_of_lt_of_le hb h.len) h1
  exact ⟨k1, k2.trans h2⟩, Nat.le_trans h.len k.len, h.below.trans k.below⟩
theorem BRel.lt {ι : Inj} {N0 : Base} {w : World} {l : Loc} {B : Blk} (h : BRel ι N0 w l B) (ho : B.ours = true) : N0 ≤ l.g ∧ l.g < w.heap.size := by
 have key : ∀ x, w.heap[l.g]? = some x → l.g < w.heap.size := fun x hx => (Array.getElem?_eq_some_iff.1 hx).1
 cases B with
 | box cs => obtain ⟨h1, _, cc, e, h2, _⟩ := h; exact ⟨h1, key _ h2⟩
 | row o s cs =>
  cases o with
  | true => obtain ⟨h1, _, cc, e, h2, _⟩ := h; exact ⟨h1, key _ h2⟩
  | false => simp [Blk.ours] at ho
 | map es => obtain ⟨h1, fs, c, h2, _⟩ := h; exact ⟨h1, key _ h2⟩
 | loop st pend t ps x y => obtain ⟨h1, r, h2, _⟩ := h; exact ⟨h1, key _ h2⟩
 | dead => simp [Blk.ours] at ho
theorem BRel.noMark {ι : Inj} {N0 : Base} {w : World} {l : Loc} {B : Blk} (h : BRel ι N0 w l B) (ho : B ≠ .dead) (x : Option (List Deferred)) : w.heap[l.g]? ≠ some (Obj.deferred x) := by
 intro e
 cases B with
 | box cs => obtain ⟨_, _, cc, e', h2, _⟩ := h; rw [e] at h2; cases h2
 | row o s cs =>
  cases o with
  | true => obtain ⟨_, _, cc, e', h2, _⟩ := h; rw [e] at h2; cases h2
  | false => obtain ⟨_, _, cc, e', f, h2, _⟩ := h; rw [e] at h2; cases h2
 | map es => obtain ⟨_, fs, c, h2, _⟩ := h; rw [e] at h2; cases h2
 | loop st pend t ps x y => obtain ⟨_, r, h2, _⟩ := h; rw [e] at h2; cases h2
 | dead => exact ho rfl
theorem BRel.base_of {ι : Inj} {N0 N1 : Base} {w : World} {l : Loc} {B : Blk} (h : BRel ι N0 w l B) (hn : N1.n = N0.n) : BRel ι N1 w l B := by
 cases B with
 | box cs => unfold BRel at *; rw [hn]; exact h
 | row o s cs => cases o <;> (unfold BRel at *; rw [hn]; exact h)
 | map es => unfold BRel at *; rw [hn]; exact h
 | loop st pend t ps x y => unfold BRel at *; rw [hn]; exact h
 | dead => trivial
theorem MRel.base_of {ι : Inj} {N0 N1 : Base} {M : Mem} {w : World} (h : MRel ι N0 M w) (hn : N1.n = N0.n) : MRel ι N1 M w :=
 ⟨fun b B l hb hl => (h.blk b B l hb hl).base_of hn, h.dom, h.inj, by rw [hn]; exact h.base⟩
theorem Ext.base_of {ι ι' : Inj} {N0 N1 : Base} {M M' : Mem} {w w' : World} (h : Ext ι N0 M w ι' M' w') (hn : N1.n = N0.n) : Ext ι N1 M w ι' M' w' :=
 ⟨h.inj, h.pend, h.len, ⟨by rw [hn]; exact h.below.low, h.below.mark⟩⟩
theorem BRel.keep {ι ι' : Inj} {N0 : Base} {w w' : World} {l : Loc} {B : Blk} (hi : ∀ b l, ι b = some l → ι' b = some l) (h : BRel ι N0 w l B) (hk : B ≠ .dead → w'.heap[l.g]? = w.heap[l.g]?) : BRel ι' N0 w' l B := by
 cases B with
 | box cs =>
  obtain ⟨h1, hs, cc, e, h2, h3, h4, h5⟩ := h
  exact ⟨h1, hs, cc, e, (hk (by simp)).trans h2, h3, h4, fun j v hj => let ⟨v', a, b⟩ := h5 j v hj; ⟨v', a, b.mono hi⟩⟩
 | row o s cs =>
  cases o with
  | true =>
   obtain ⟨h1, hs, cc, e, h2, h3, h4, h5⟩ := h
   exact ⟨h1, hs, cc, e, (hk (by simp)).trans h2, h3, h4, fun j v hj => let ⟨v', a, b⟩ := h5 j v hj; ⟨v', a, b.mono hi⟩⟩
  | false =>
   obtain ⟨h1, hs, cc, e, f, h2, h5⟩ := h
   exact ⟨h1, hs, cc, e, f, (hk (by simp)).trans h2, fun j v hj => let ⟨v', a, b⟩ := h5 j v hj; ⟨v', a, b.mono hi⟩⟩
 | map es =>
  obtain ⟨h1, fs, c, h2, h3⟩ := h
  exact ⟨h1, fs, c, (hk (by simp)).trans h2, h3.mono hi⟩
 | loop st pend t ps x y =>
  obtain ⟨h1, r, h2, h3, h4⟩ := h
  exact ⟨h1, r, (hk (by simp)).trans h2, h3, h4.mono hi⟩
 | dead => trivial
def szOk (M : Mem) (v : Value) (s : Nat) : Prop := 0 < s ∧ ∀ a n c B, v = .slice (some a) n c → c ≠ 0 → M[a.block]? = some B → B.esz = s
theorem BRel.esz {ι : Inj} {N0 : Base} {w : World} {l : Loc} {B : Blk} (h : BRel ι N0 w l B) (h0 : 0 < B.esz) : l.sz = B.esz := by
 cases B with
 | box cs => exact h.2.1
 | row o s cs => cases o <;> exact h.2.1
 | map es => simp [Blk.esz] at h0
 | loop st pend t ps x y => simp [Blk.esz] at h0
 | dead => simp [Blk.esz] at h0
def marksOk (N0 : Base) (w : World) : List Deferred → Prop
 | [] => True
 | d :: ds => (∃ r, d = { target := .collected r, args := #[] } ∧ N0.n ≤ r ∧ N0.d ≤ r ∧ w.heap[r]? = some (Obj.deferred (some [])) ∧ ∀ d' ∈ ds, d' ≠ d) ∧ marksOk N0 w ds
def okDefers (N0 : Base) (w : World) (ds : List Deferred) : Prop := N0.d ≤ w.heap.size ∧ marksOk N0 w ds
theorem marksOk.keep {N0 : Base} {w w' : World} : ∀ {ds : List Deferred}, marksOk N0 w ds → (∀ r, { target := .collected r, args := #[] } ∈ ds → w.heap[r]? = some (Obj.deferred (some [])) → w'.heap[r]? = some (Obj.deferred (some []))) → marksOk N0 w' ds
 | [], _, _ => trivial
 | d :: ds, ⟨⟨r, e, h1, h2, h3, h4⟩, h⟩, k => ⟨⟨r, e, h1, h2, k r (by simp [e]) h3, h4⟩, h.keep fun r hr => k r (by simp [hr])⟩
theorem okDefers.keep {N0 : Base} {w w' : World} {ds : List Deferred} (h : okDefers N0 w ds) (k : Low N0 w w') : okDefers N0 w' ds :=
 ⟨Nat.le_trans h.1 k.low.size, h.2.keep fun r _ => k.mark r⟩
structure Rel (ι : Inj) (N0 : Base) (t : List Value) (M : Mem) (a : Act) (w : World) : Prop where
 tmps : LRel ι t a.tmps.toList
 mem : MRel ι N0 M w
 defers : okDefers N0 w a.defers
def Post (N0 : Base) (ι : Inj) (M : Mem) (w : World) (Q : Exit → List Value → Mem → Prop) (e : Exit) (a' : Act) (w' : World) : Prop :=
 ∃ t' M' ι', Rel ι' N0 t' M' a' w' ∧ Ext ι N0 M w ι' M' w' ∧ Q e t' M'
theorem Post.trans {N0 : Base} {ι ι' : Inj} {M M' : Mem} {w w' : World} {Q : Exit → List Value → Mem → Prop} {e : Exit} {a2 : Act} {w2 : World} (h : Ext ι N0 M w ι' M' w') (k : Post N0 ι' M' w' Q e a2 w2) : Post N0 ι M w Q e a2 w2 :=
 let ⟨t', M2, ι2, r, x, q⟩ := k; ⟨t', M2, ι2, r, h.trans x, q⟩
def fence (ro : Option Nat) : Fence := { Fence.wide with round := ro }
theorem fence_all (P : Program) (ro : Option Nat) (m : Machine) : m.fenced P (fence ro) := by
 intro g _
 exact ⟨fun h => by simp [fence, Fence.wide] at h, Or.inl trivial, fun _ _ => trivial, fun _ h => by simp [fence, Fence.wide] at h⟩
theorem fence_steps {P : Program} {ro : Option Nat} {m m' : Machine} : StepsIn (Machine.fenced P (fence ro)) P m m' ↔ Steps P m m' :=
 ⟨StepsIn.steps, fun h => (StepsIn.of_steps h).mono fun m _ => fence_all P ro m⟩
def tops : Code → Bool
 | .seq x y => tops x || tops y
 | .cond _ x y => tops x || tops y
 | .block _ x => tops x
 | .loop x => tops x
 | .scope _ => true
 | .rangeFunc .. => true
 | _ => false
def AW (P : Program) (c : Code) (Q : Exit → List Value → Mem → Prop) (t : List Value) (M : Mem) : Prop :=
 ∀ ro, (tops c = true → ro = none) → ∀ ι N0 a w, Rel ι N0 t M a w → c.wpIn (fence ro) 0 P (Post N0 ι M w Q) a w
def thenA (next : List Value → Mem → Prop) (Q : Exit → List Value → Mem → Prop) : Exit → List Value → Mem → Prop
 | .normal, t, M => next t M
 | e, t, M => Q e t M
def blockA (id : Nat) (Q : Exit → List Value → Mem → Prop) : Exit → List Value → Mem → Prop
 | .exit id', t, M => if id' = id then Q .normal t M else Q (.exit id') t M
 | e, t, M => Q e t M
section
variable {P : Program} {Q : Exit → List Value → Mem → Prop} {t : List Value} {M : Mem}
theorem AW.mono {c : Code} {Q' : Exit → List Value → Mem → Prop} (h : AW P c Q t M) (hq : ∀ e t M, Q e t M → Q' e t M) : AW P c Q' t M :=
 fun ro hr ι N0 a w r => wpIn_mono (h ro hr ι N0 a w r) fun e a w ⟨t', M', ι', r, x, q⟩ => ⟨t', M', ι', r, x, hq _ _ _ q⟩
theorem AW.now {c : Code} (hc : ∀ ro Q' a w, Q' Exit.normal a w → c.wpIn (fence ro) 0 P Q' a w) (h : Q .normal t M) : AW P c Q t M :=
 fun ro hr ι N0 a w r => hc _ _ _ _ ⟨t, M, ι, r, Ext.refl _ _ _ _, h⟩
theorem AW.skip (h : Q .normal t M) : AW P .skip Q t M := AW.now (fun _ _ _ _ h => wpIn_skip h) h
theorem AW.label {l : Nat} (h : Q .normal t M) : AW P (.label l) Q t M := AW.now (fun _ _ _ _ h => wpIn_label h) h
theorem AW.exit {id : Nat} (h : Q (.exit id) t M) : AW P (.exit id) Q t M := fun ro hr ι N0 a w r => wpIn_exit ⟨t, M, ι, r, Ext.refl _ _ _ _, h⟩
theorem AW.goto {id : Nat} (h : Q (.goto id) t M) : AW P (.goto id) Q t M := fun ro hr ι N0 a w r => wpIn_goto ⟨t, M, ι, r, Ext.refl _ _ _ _, h⟩
theorem AW.ret (h : Q .ret t M) : AW P .ret Q t M := fun ro hr ι N0 a w r => wpIn_ret ⟨t, M, ι, r, Ext.refl _ _ _ _, h⟩
theorem AW.seq {x y : Code} (h : AW P x (thenA (AW P y Q) Q) t M) : AW P (.seq x y) Q t M := by
 intro ro hr ι N0 a w r
 refine wpIn_seq (wpIn_mono (h ro (fun e => hr (by simp [tops, e])) ι N0 a w r) ?_)
 rintro e a' w' ⟨t', M', ι', r', x', q⟩
 cases e with
 | normal => exact wpIn_mono (q ro (fun e => hr (by simp [tops, e])) ι' N0 a' w' r') fun e a2 w2 k => Post.trans x' k
 | _ => exact ⟨t', M', ι', r', x', q⟩
theorem AW.block {id : Nat} {c : Code} (h : AW P c (blockA id Q) t M) : AW P (.block id c) Q t M := by
 intro ro hr ι N0 a w r
 refine wpIn_block (wpIn_mono (h ro hr ι N0 a w r) ?_)
 rintro e a' w' ⟨t', M', ι', r', x', q⟩
 cases e with
 | exit id' =>
  by_cases hid : id' = id
  ·simp only [Exit.inBlock, hid, if_true]; simp only [blockA, hid, if_true] at q; exact ⟨t', M', ι', r', x', q⟩
  ·simp only [Exit.inBlock, hid, if_false]; simp only [blockA, hid, if_false] at q; exact ⟨t', M', ι', r', x', q⟩
 | _ => exact ⟨t', M', ι', r', x', q⟩
def ev (t : List Value) : Operand → Value
 | .tmp i => t.getD i undef
 | .const v => v
 | .global g => .pointer (some ⟨g, 0, none⟩)
 | .func f => .func (.func f) #[] #[]
def okOpd : Operand → Bool
 | .tmp _ => true
 | .const v => plain v
 | .global _ => false
 | .func _ => true
theorem VRel.undef (ι : Inj) : VRel ι undef undef := .tuple _ _ .nil
theorem LRel.getD {ι : Inj} {xs ys : List Value} (h : LRel ι xs ys) (j : Nat) : VRel ι (xs.getD j undef) (ys.getD j undef) := by
 rw [List.getD_eq_getElem?_getD, List.getD_eq_getElem?_getD]
 cases hj : xs[j]? with
 | none =>
  have : ys[j]? = none := by rw [List.getElem?_eq_none_iff] at hj ⊢; rw [← h.length]; exact hj
  rw [this]; exact VRel.undef ι
 | some v => obtain ⟨v', h1, h2⟩ := h.get hj; rw [h1]; exact h2
theorem Rel.ev {ι : Inj} {a : Act} (r : LRel ι t a.tmps.toList) {x : Operand} (hx : okOpd x = true) : VRel ι (ev t x) (a.eval x) := by
 cases x with
 | tmp i => have := r.getD i; simpa [Ax.ev, Act.eval, Array.getD_eq_getD_getElem?, List.getD_eq_getElem?_getD] using this
 | const v => exact VRel.of_plain hx
 | global g => simp [okOpd] at hx
 | func f => exact .func _ (fun _ h => by cases h) _ _ _ _ .nil .nil
theorem AW.cond {c : Operand} {x y : Code} (hx : okOpd c = true := by rfl) (b : Bool) (hc : ev t c = .bool b) (h1 : b = true → AW P x Q t M) (h2 : b = false → AW P y Q t M) : AW P (.cond c x y) Q t M := by
 intro ro hr ι N0 a w r
 have hv := Rel.ev r.tmps hx
 rw [hc] at hv
 have he : a.eval c = .bool b := by generalize a.eval c = z at hv; cases hv; rfl
 exact wpIn_cond_split he (fun hb => h1 hb ro (fun e => hr (by simp [tops, e])) ι N0 a w r) (fun hb => h2 hb ro (fun e => hr (by simp [tops, e])) ι N0 a w r)
theorem AW.loop {c : Code} (I : Nat → List Value → Mem → Prop) (n : Nat) (h0 : I n t M)
  (round : ∀ n t M, I n t M → AW P c (thenA (fun t' M' => ∃ m, m < n ∧ I m t' M') Q) t M) : AW P (.loop c) Q t M := by
 intro ro hro ι N0 a w r b k cs hb hf hm
 have key : ∀ n t M ι a w, I n t M → Rel ι N0 t M a w → ∃ e a' w', Post N0 ι M w Q e a' w' ∧ ArrivesIn (Machine.fenced P (fence ro)) P (lone (b.atR a (.code c :: .inLoop c :: k)) cs w) b k cs e a' w' := by
  intro n
  induction n using Nat.strongRecOn with
  | _ n ih =>
   intro t M ι a w hI r
   obtain ⟨e, a₁, w₁, ⟨t', M', ι', r', x', q⟩, harr⟩ := round n t M hI ro hro ι N0 a w r b (.inLoop c :: k) cs hb hf hm
   cases e with
   | normal =>
    obtain ⟨m, hm, hI'⟩ := q
    obtain ⟨e₂, a₂, w₂, hq₂, harr₂⟩ := ih m hm t' M' ι' a₁ w₁ hI' r'
    exact ⟨e₂, a₂, w₂, Post.trans x' hq₂, .of_steps (StepsIn.trans harr (.one (fence_all _ _ _) stepR_inLoop)) harr₂⟩
   | exit id => exact ⟨_, a₁, w₁, ⟨t', M', ι', r', x', q⟩, .pass (x := .inLoop c) rfl (fun _ _ => .inl (by simp)) harr⟩
   | goto l => exact ⟨_, a₁, w₁, ⟨t', M', ι', r', x', q⟩, .pass (x := .inLoop c) rfl (fun _ _ => .inl (by simp)) harr⟩
   | ret => exact ⟨_, a₁, w₁, ⟨t', M', ι', r', x', q⟩, .pass (x := .inLoop c) rfl (fun _ _ => .inl (by simp)) harr⟩
   | panic ch => exact ⟨_, a₁, w₁, ⟨t', M', ι', r', x', q⟩, .pass (x := .inLoop c) rfl (fun _ _ => .inl (by simp)) harr⟩
   | outgrown => exact ⟨_, a₁, w₁, ⟨t', M', ι', r', x', q⟩, .pass (x := .inLoop c) rfl (fun _ _ => .inl (by simp)) harr⟩
 obtain ⟨e, a', w', hq, harr⟩ := key n t M ι a w h0 r
 exact ⟨e, a', w', hq, .of_steps (.one (fence_all _ _ _) stepR_loop) harr⟩
def scopeA (body : Code) (J : Nat → Nat → List Value → Mem → Prop) (n : Option Nat) (Q : Exit → List Value → Mem → Prop) : Exit → List Value → Mem → Prop
 | .goto l, t, M => if (findLabel body l).isSome then ∃ m, (∀ k, n = some k → m < k) ∧ J l m t M else Q (.goto l) t M
 | e, t, M => Q e t M
def AW0 (P : Program) (c : Code) (Q : Exit → List Value → Mem → Prop) (t : List Value) (M : Mem) : Prop :=
 ∀ ι N0 a w, Rel ι N0 t M a w → c.wp P (Post N0 ι M w Q) a w
theorem AW0.scope {body : Code} (J : Nat → Nat → List Value → Mem → Prop) (h0 : AW0 P body (scopeA body J none Q) t M)
  (pass : ∀ l rest n t M, findLabel body l = some rest → J l n t M → AW0 P rest (scopeA body J (some n) Q) t M) : AW0 P (.scope body) Q t M := by
 intro ι N0 a w r b k cs
 have key : ∀ n l t M ι a w rest, findLabel body l = some rest → J l n t M → Rel ι N0 t M a w → ∃ e a' w', Post N0 ι M w Q e a' w' ∧ Arrives P (lone (b.at a (.code rest :: .inScope body :: k)) cs w) b k cs e a' w' := by
  intro n
  induction n using Nat.strongRecOn with
  | _ n ih =>
   intro l t M ι a w rest hl hJ r
   obtain ⟨e, a₁, w₁, ⟨t', M', ι', r', x', q⟩, harr⟩ := pass l rest n t M hl hJ ι N0 a w r b (.inScope body :: k) cs
   cases e with
   | normal => exact ⟨.normal, a₁, w₁, ⟨t', M', ι', r', x', q⟩, Steps.trans harr (.one (step_lone_go (by simp [stepG, stepG.exec, Frame.at])))⟩
   | exit id => exact ⟨.exit id, a₁, w₁, ⟨t', M', ι', r', x', q⟩, fun k' hk => harr k' (by simp [exitTo, hk])⟩
   | goto l' =>
    cases hf : findLabel body l' with
    | none =>
     simp only [scopeA, hf, Option.isSome_none, Bool.false_eq_true, if_false] at q
     exact ⟨.goto l', a₁, w₁, ⟨t', M', ι', r', x', q⟩, fun k' hk => harr k' (by simp [gotoIn, hf, hk])⟩
    | some rest' =>
     simp only [scopeA, hf, Option.isSome_some, if_true] at q
     obtain ⟨m, hm, hJ'⟩ := q
     obtain ⟨e₂, a₂, w₂, hq₂, harr₂⟩ := ih m (hm n rfl) l' t' M' ι' a₁ w₁ rest' hf hJ' r'
     exact ⟨e₂, a₂, w₂, Post.trans x' hq₂, .of_steps (harr _ (by simp [gotoIn, hf])) harr₂⟩
   | ret => exact ⟨_, a₁, w₁, ⟨t', M', ι', r', x', q⟩, harr⟩
   | panic ch => exact ⟨_, a₁, w₁, ⟨t', M', ι', r', x', q⟩, harr⟩
   | outgrown => exact ⟨_, a₁, w₁, ⟨t', M', ι', r', x', q⟩, harr⟩
 obtain ⟨e, a₁, w₁, ⟨t', M', ι', r', x', q⟩, harr⟩ := h0 ι N0 a w r b (.inScope body :: k) cs
 have hs : Steps P (lone (b.at a (.code (.scope body) :: k)) cs w) (lone (b.at a (.code body :: .inScope body :: k)) cs w) := .one (step_lone_go (by simp [stepG, stepG.exec, Frame.at]))
 cases e with
 | normal => exact ⟨.normal, a₁, w₁, ⟨t', M', ι', r', x', q⟩, hs.trans (Steps.trans harr (.one (step_lone_go (by simp [stepG, stepG.exec, Frame.at]))))⟩
 | exit id => exact ⟨.exit id, a₁, w₁, ⟨t', M', ι', r', x', q⟩, fun k' hk => hs.trans (harr k' (by simp [exitTo, hk]))⟩
 | goto l' =>
  cases hf : findLabel body l' with
  | none =>
   simp only [scopeA, hf, Option.isSome_none, Bool.false_eq_true, if_false] at q
   exact ⟨.goto l', a₁, w₁, ⟨t', M', ι', r', x', q⟩, fun k' hk => hs.trans (harr k' (by simp [gotoIn, hf, hk]))⟩
  | some rest' =>
   simp only [scopeA, hf, Option.isSome_some, if_true] at q
   obtain ⟨m, hm, hJ'⟩ := q
   obtain ⟨e₂, a₂, w₂, hq₂, harr₂⟩ := key m l' t' M' ι' a₁ w₁ rest' hf hJ' r'
   exact ⟨e₂, a₂, w₂, Post.trans x' hq₂, .of_steps (hs.trans (harr _ (by simp [gotoIn, hf]))) harr₂⟩
 | ret => exact ⟨_, a₁, w₁, ⟨t', M', ι', r', x', q⟩, .of_steps hs harr⟩
 | panic ch => exact ⟨_, a₁, w₁, ⟨t', M', ι', r', x', q⟩, .of_steps hs harr⟩
 | outgrown => exact ⟨_, a₁, w₁, ⟨t', M', ι', r', x', q⟩, .of_steps (b := b) (k := k) (cs := cs) (e := .outgrown) hs harr⟩
theorem AW.zero {c : Code} (h : AW P c Q t M) : AW0 P c Q t M := fun ι N0 a w r => wpIn_wide.1 (h none (fun _ => rfl) ι N0 a w r)
theorem AW.scope {body : Code} (J : Nat → Nat → List Value → Mem → Prop) (h0 : AW P body (scopeA body J none Q) t M)
  (pass : ∀ l rest n t M, findLabel body l = some rest → J l n t M → AW P rest (scopeA body J (some n) Q) t M) : AW P (.scope body) Q t M := by
 intro ro hro ι N0 a w r
 obtain rfl : ro = none := hro rfl
 exact wpIn_wide.2 (AW0.scope J h0.zero (fun l rest n t M hl hJ => (pass l rest n t M hl hJ).zero) ι N0 a w r)
def Callable (P : Program) (f : FuncId) : Prop := ∃ fn c, P.funcs[f]? = some fn ∧ fn.body = some c ∧ (fn.name == "runtime.NumGoroutine") = false
def CallA (P : Program) (f : FuncId) (args : List Value) (M : Mem) (R : Value → Mem → Prop) : Prop :=
 Callable P f ∧ ∀ ι N0 args' w, MRel ι N0 M w → LRel ι args args' → Calls P f args'.toArray w fun e w' => ∃ v v' M' ι', e = .returned v' ∧ VRel ι' v v' ∧ MRel ι' N0 M' w' ∧ Ext ι N0 M w ι' M' w' ∧ R v M'
theorem CallA.mono {f : FuncId} {args : List Value} {R R' : Value → Mem → Prop} (h : CallA P f args M R) (hr : ∀ v M', R v M' → R' v M') : CallA P f args M R' :=
 ⟨h.1, fun ι N0 args' w hm ha => (h.2 ι N0 args' w hm ha).mono fun e w' ⟨v, v', M', ι', h1, h2, h3, h4, h5⟩ => ⟨v, v', M', ι', h1, h2, h3, h4, hr _ _ h5⟩⟩
def AResult (P : Program) (fn : Func) (t : List Value) (M : Mem) (v : Value) : Prop :=
 ∀ ι N0 a w, Rel ι N0 t M a w → ∃ v', VRel ι v v' ∧ (results fn a.tmps).run P w = .ok v' w
def retA (P : Program) (fn : Func) (R : Value → Mem → Prop) : Exit → List Value → Mem → Prop
 | .normal, t, M => ∃ v, AResult P fn t M v ∧ R v M
 | .ret, t, M => ∃ v, AResult P fn t M v ∧ R v M
 | _, _, _ => False
theorem CallA.of_body {f : FuncId} {fn : Func} {c : Code} {args : List Value} {R : Value → Mem → Prop} (hf : P.funcs[f]? = some fn) (hb : fn.body = some c) (hn : (fn.name == "runtime.NumGoroutine") = false)
  (h : AW P c (retA P fn R) (args ++ List.replicate (fn.ntmps - args.length) undef) M) : CallA P f args M R := by
 refine ⟨⟨fn, c, hf, hb, hn⟩, ?_⟩
 intro ι N1 args' w hm1 ha
 refine callsIn_wide.1 (callsIn_of_wp_marks (F := Fence.wide) (n := 0) hf hb trivial ?_)
 obtain ⟨N0, hN0⟩ : ∃ N0 : Base, N0 = ⟨N1.n, w.heap.size⟩ := ⟨_, rfl⟩
 have hn : N0.n = N1.n := by rw [hN0]
 have hNd : N0.d = w.heap.size := by rw [hN0]
 have hm : MRel ι N0 M w := hm1.base_of hn
 have r : Rel ι N0 (args ++ List.replicate (fn.ntmps - args.length) undef) M { tmps := args'.toArray ++ Array.replicate (fn.ntmps - args'.toArray.size) undef, defers := [] } w :=
  ⟨by rw [ha.length]; simpa using ha.append (LRel.replicate (VRel.undef ι) _), hm, ⟨by omega, trivial⟩⟩
 refine wpIn_mono (h none (fun _ => rfl) ι N0 _ w r) ?_
 have fin : ∀ (ds : List Deferred) (ι' : Inj) (t' : List Value) (M' : Mem) (a' : Act) (w' : World), a'.defers = ds → Rel ι' N0 t' M' a' w' → Ext ι N0 M w ι' M' w' → (∃ v, AResult P fn t' M' v ∧ R v M') →
   LeavesInM Fence.wide 0 P fn a'.tmps (fun e w' => ∃ v v' M' ι', e = .returned v' ∧ VRel ι' v v' ∧ MRel ι' N1 M' w' ∧ Ext ι N1 M w ι' M' w' ∧ R v M') ds .returning w' := by
  intro ds
  induction ds with
  | nil =>
   intro ι' t' M' a' w' hd r' x' ⟨v, hv, hR⟩
   obtain ⟨v', h1, h2⟩ := hv ι' N0 a' w' r'
   exact ⟨v', h2, v, v', M', ι', rfl, h1, r'.mem.base_of hn.symm, x'.base_of hn.symm, hR⟩
  | cons d0 ds ih =>
   intro ι' t' M' a' w' hd r' x' hvR
   have hdef := r'.defers
   rw [hd] at hdef
   obtain ⟨hsz, ⟨d, rfl, hN, hD, hh, hdis⟩, hrest⟩ := hdef
   have hlt : d < w'.heap.size := (Array.getElem?_eq_some_iff.1 hh).1
   have hother : ∀ g, g ≠ d → (w'.putObj d (.deferred none)).heap[g]? = w'.heap[g]? := fun g hg => World.putObj_heap_other hg
   have hmem : MRel ι' N0 M' (w'.putObj d (.deferred none)) := by
    refine ⟨fun b B l hb hl => ?_, r'.mem.dom, r'.mem.inj, by simpa using r'.mem.base⟩
    have hB := r'.mem.blk b B l hb hl
    refine hB.keep (fun _ _ h => h) fun hne => hother _ fun e => ?_
    exact hB.noMark hne _ (by rw [e]; exact hh)
   have hlow : Low N0 w (w'.putObj d (.deferred none)) := by
    have hb := x'.below.low
    refine ⟨⟨hb.os, hb.tape, hb.output, by simpa using hb.size, fun k hk => ?_⟩, fun k hk => ?_⟩
    ·exact (hother k (by omega)).trans (hb.block k (by omega))
    ·have hk' := (Array.getElem?_eq_some_iff.1 hk).1
     exact (hother k (by omega)).trans (x'.below.mark k hk)
   have hdef : okDefers N0 (w'.putObj d (.deferred none)) ds := by
    refine ⟨by simpa using hsz, hrest.keep fun g hg hgh => ?_⟩
    refine (hother g fun e => ?_).trans hgh
    subst e
    exact hdis _ hg rfl
   exact ⟨by simp, .inl ⟨d, _, rfl, run_takeDeferred hh, ih ι' t' M' { a' with defers := ds } _ rfl ⟨r'.tmps, hmem, hdef⟩ ⟨x'.inj, x'.pend, x'.len, hlow⟩ hvR⟩⟩
 rintro e a' w' ⟨t', M', ι', r', x', q⟩
 cases e with
 | normal => exact fin _ ι' t' M' a' w' rfl r' x' q
 | ret => exact fin _ ι' t' M' a' w' rfl r' x' q
 | _ => exact q.elim
end
def ORel (ι : Inj) (ρ ρ' : Operand → Value) (o : Oper) : Prop := ∀ x ∈ o.op.operands, VRel ι (ρ x) (ρ' x)
def calmOp (o : Oper) : Bool := match o.op with
 | .defer _ => false
 | _ => true
def okOpds (o : Oper) : Bool := o.op.operands.toList.all okOpd && calmOp o
theorem okOpds_calm {o : Oper} (h : okOpds o = true) : ∀ c, o.op ≠ .defer c := by
 intro c e
 unfold okOpds calmOp at h
 rw [e] at h
 simp at h
theorem okOpds_all {o : Oper} (h : okOpds o = true) : o.op.operands.toList.all okOpd = true := by
 unfold okOpds at h
 simp only [Bool.and_eq_true] at h
 exact h.1
theorem ORel.of {ι : Inj} {t : List Value} {a : Act} (r : LRel ι t a.tmps.toList) {o : Oper} (h : okOpds o = true) : ORel ι (ev t) a.eval o := by
 intro x hx
 exact Rel.ev r (List.all_eq_true.1 (okOpds_all h) x (by simpa using hx))
def PureA (P : Program) (o : Oper) (ρ : Operand → Value) (v : Value) : Prop :=
 ∀ ι ρ', ORel ι ρ ρ' o → ∃ v', VRel ι v v' ∧ ∀ w, (execOp ρ' o).run P w = .ok (.value v') w
def LoadA (P : Program) (o : Oper) (ρ : Operand → Value) (L : Mem → Prop) (v : Value) : Prop :=
 ∀ ι N0 ρ' M w, MRel ι N0 M w → L M → ORel ι ρ ρ' o → ∃ v', VRel ι v v' ∧ (execOp ρ' o).run P w = .ok (.value v') w
def Inj.upd (ι : Inj) (b : Nat) (l : Loc) : Inj := fun x => if x = b then some l else ι x
def FreshA (P : Program) (o : Oper) (ρ : Operand → Value) (B : Blk) (v : Nat → Value) : Prop :=
 ∀ ι (N0 : Base) ρ' b w, ι b = none → N0.n ≤ w.heap.size → ORel ι ρ ρ' o → ∃ obj v' l, (execOp ρ' o).run P w = .ok (.value v') (w.alloc obj) ∧ l.g = w.heap.size ∧ VRel (ι.upd b l) (v b) v' ∧ BRel (ι.upd b l) N0 (w.alloc obj) l B
def AOp (P : Program) (o : Oper) (ρ : Operand → Value) (M : Mem) (K : Value → Mem → Prop) : Prop :=
 ∀ ι N0 a w KC QC, ORel ι ρ a.eval o → MRel ι N0 M w → (∀ v v' M' ι' w', VRel ι' v v' → MRel ι' N0 M' w' → Ext ι N0 M w ι' M' w' → K v M' → KC (a.put o.dst v') w') → o.wp P a w KC QC
theorem BRel.alloc {ι ι' : Inj} {N0 : Base} {w : World} {l : Loc} {B : Blk} {obj : Obj} (hi : ∀ b l, ι b = some l → ι' b = some l) (h : BRel ι N0 w l B) (hB : N0 ≤ w.heap.size) : BRel ι' N0 (w.alloc obj) l B := by
 cases B with
 | row o s cs =>
  cases o with
  | true => exact h.keep hi fun _ => Below.heap_alloc _ _ _ (h.lt rfl).2
  | false => exact h.keep hi fun _ => Below.heap_alloc _ _ _ (Nat.lt_of_lt_of_le h.1 hB)
 | box cs => exact h.keep hi fun _ => Below.heap_alloc _ _ _ (h.lt rfl).2
 | map es => exact h.keep hi fun _ => Below.heap_alloc _ _ _ (h.lt rfl).2
 | loop st pend t ps x y => exact h.keep hi fun _ => Below.heap_alloc _ _ _ (h.lt rfl).2
 | dead => trivial
theorem Inj.upd_le {ι : Inj} {b : Nat} {l : Loc} (h : ι b = none) : ∀ x y, ι x = some y → ι.upd b l x = some y := by
 intro x y hx
 unfold Inj.upd
 by_cases e : x = b
 ·subst e; rw [h] at hx; cases hx
 ·rw [if_neg e]; exact hx
theorem MRel.lay {ι : Inj} {N0 : Base} {M : Mem} {w : World} {b : Nat} {B : Blk} {l : Loc} {obj : Obj} (h : MRel ι N0 M w) (hb : M[b]? = some B) (hn : ι b = none) (hg : l.g = w.heap.size) (hB : BRel (ι.upd b l) N0 (w.alloc obj) l B) : MRel (ι.upd b l) N0 M (w.alloc obj) := by
 have hi := Inj.upd_le (l := l) hn
 have hlt : b < M.length := (List.getElem?_eq_some_iff.1 hb).1
 refine ⟨?_, ?_, ?_, ?_⟩
 ·intro x X lx hx hl
  unfold Inj.upd at hl
  by_cases e : x = b
  ·subst e
   rw [if_pos rfl] at hl
   obtain rfl := Option.some.inj hl
   rw [hb] at hx
   obtain rfl := Option.some.inj hx
   exact hB
  ·rw [if_neg e] at hl
   exact (h.blk x X lx hx hl).alloc hi h.base
 ·intro x hx
  unfold Inj.upd
  rw [if_neg (by omega)]
  exact h.dom x hx
 ·intro x y X Y lx ly hx hy ox oy hlx hly he
  unfold Inj.upd at hlx hly
  by_cases e : x = b <;> by_cases e' : y = b
  ·rw [e, e']
  ·rw [if_pos e] at hlx; rw [if_neg e'] at hly
   obtain rfl := Option.some.inj hlx
   have := ((h.blk y Y ly hy hly).lt oy).2
   omega
  ·rw [if_neg e] at hlx; rw [if_pos e'] at hly
   obtain rfl := Option.some.inj hly
   have := ((h.blk x X lx hx hlx).lt ox).2
   omega
  ·rw [if_neg e] at hlx; rw [if_neg e'] at hly
   exact h.inj x y X Y lx ly hx hy ox oy hlx hly he
 ·simp; have := h.base; omega
theorem MRel.push {ι : Inj} {N0 : Base} {M : Mem} {w : World} (h : MRel ι N0 M w) (B : Blk) : MRel ι N0 (M ++ [B]) w := by
 have key : ∀ x X lx, (M ++ [B])[x]? = some X → ι x = some lx → M[x]? = some X := by
  intro x X lx hx hl
  have hlt : x < M.length := by
   rcases Nat.lt_or_ge x M.length with hlt | hge
   ·exact hlt
   ·rw [h.dom x hge] at hl; cases hl
  rwa [List.getElem?_append_left hlt] at hx
 refine ⟨fun x X lx hx hl => h.blk x X lx (key x X lx hx hl) hl, fun x hx => h.dom x (by simp at hx; omega), ?_, h.base⟩
 intro x y X Y lx ly hx hy ox oy hlx hly he
 exact h.inj x y X Y lx ly (key x X lx hx hlx) (key y Y ly hy hly) ox oy hlx hly he
section
variable {P : Program} {o : Oper} {ρ : Operand → Value} {M : Mem} {K : Value → Mem → Prop}
theorem AOp.mono {K' : Value → Mem → Prop} (h : AOp P o ρ M K) (hk : ∀ v M', K v M' → K' v M') : AOp P o ρ M K' :=
 fun ι N0 a w KC QC ho hm hc => h ι N0 a w KC QC ho hm fun v v' M' ι' w' h1 h2 h3 h4 => hc v v' M' ι' w' h1 h2 h3 (hk _ _ h4)
theorem AOp.pure {v : Value} (h : PureA P o ρ v) (hk : K v M) : AOp P o ρ M K := by
 intro ι N0 a w KC QC ho hm hc
 obtain ⟨v', h1, h2⟩ := h ι a.eval ho
 unfold Oper.wp
 rw [h2]
 exact hc v v' M ι w h1 hm (Ext.refl _ _ _ _) hk
theorem AOp.load {v : Value} {L : Mem → Prop} (h : LoadA P o ρ L v) (hl : L M) (hk : K v M) : AOp P o ρ M K := by
 intro ι N0 a w KC QC ho hm hc
 obtain ⟨v', h1, h2⟩ := h ι N0 a.eval M w hm hl ho
 unfold Oper.wp
 rw [h2]
 exact hc v v' M ι w h1 hm (Ext.refl _ _ _ _) hk
theorem AOp.fresh {v : Nat → Value} {B : Blk} (h : FreshA P o ρ B v) (hk : K (v M.length) (M ++ [B])) : AOp P o ρ M K := by
 intro ι N0 a w KC QC ho hm hc
 have hn := hm.dom M.length (Nat.le_refl _)
 obtain ⟨obj, v', l, h1, h2, h3, h4⟩ := h ι N0 a.eval M.length w hn hm.base ho
 unfold Oper.wp
 rw [h1]
 refine hc _ v' (M ++ [B]) (ι.upd M.length l) (w.alloc obj) h3 ((hm.push B).lay (by simp) hn h2 h4) ⟨Inj.upd_le hn, ?_, by simp, ?_⟩ hk
 ·intro b hb hbn
  refine ⟨?_, List.getElem?_append_left hb⟩
  unfold Inj.upd
  rw [if_neg (by omega)]
  exact hbn
 ·exact (Low.refl _ _).alloc hm.base _
end
def putT (t : List Value) (d : Option Tmp) (v : Value) : List Value := match d with
 | some d => t.set d v
 | none => t
def yieldA (ops : Array Oper) (t : List Value) (j : Nat) : Option Bool :=
 match ((ops[j]?).bind (·.dst)).bind (t[·]?) with
 | some (.bool b) => some b
 | _ => none
def wantA (ops : Array Oper) (o : Oper) (t : List Value) : Bool := match o.guard with
 | none => true
 | some (j, want) => yieldA ops t j == some want
theorem yieldA_eq {ι : Inj} {t : List Value} {a : Act} (r : LRel ι t a.tmps.toList) (ops : Array Oper) (j : Nat) : yielded ops a.tmps j = yieldA ops t j := by
 unfold yielded yieldA
 cases hd : (ops[j]?).bind (·.dst) with
 | none => rfl
 | some d =>
  simp only [Option.bind_some]
  cases ht : t[d]? with
  | none =>
   have : a.tmps[d]? = none := by
    rw [List.getElem?_eq_none_iff] at ht
    rw [Array.getElem?_eq_none_iff]
    have := r.length
    simp at this
    omega
   rw [this]
  | some v =>
   obtain ⟨v', h1, h2⟩ := r.get ht
   have h1' : a.tmps[d]? = some v' := by simpa using h1
   rw [h1']
   cases h2 <;> rfl
theorem wantA_eq {ι : Inj} {t : List Value} {a : Act} (r : LRel ι t a.tmps.toList) (ops : Array Oper) (o : Oper) : Region.wanted o (yielded ops a.tmps) = wantA ops o t := by
 unfold Region.wanted wantA
 cases o.guard with
 | none => rfl
 | some g => obtain ⟨j, want⟩ := g; simp only [yieldA_eq r]
theorem LRel.put {ι : Inj} {t : List Value} {a : Act} (r : LRel ι t a.tmps.toList) (d : Option Tmp) {v v' : Value} (h : VRel ι v v') : LRel ι (putT t d v) (a.put d v').tmps.toList := by
 cases d with
 | none => exact r
 | some d => simpa [putT, Act.put] using r.set d h
theorem put_defers (a : Act) (d : Option Tmp) (v : Value) : (a.put d v).defers = a.defers := by cases d <;> rfl
def AL (P : Program) (ops : Array Oper) (l : List Oper) (K : List Value → Mem → Prop) (t : List Value) (M : Mem) : Prop :=
 ∀ ro ι N0 a w Q, Rel ι N0 t M a w → (∀ t' M' ι' a' w', Rel ι' N0 t' M' a' w' → Ext ι N0 M w ι' M' w' → K t' M' → Q .normal a' w') → wpListIn (fence ro) 0 P ops Q l a w
def YieldA (P : Program) (l : Nat) (args : List Value) (M : Mem) (R : Bool → Mem → Prop) : Prop :=
 ∀ ι N0 args' w loc, MRel ι N0 M w → ι l = some loc → LRel ι args args' → YieldAt Fence.wide 0 P loc.g args'.toArray w fun e w' => ∃ b M' ι', e = .returned (.bool b) ∧ MRel ι' N0 M' w' ∧ Ext ι N0 M w ι' M' w' ∧ R b M'
section
variable {P : Program} {ops : Array Oper} {o : Oper} {rest : List Oper} {K : List Value → Mem → Prop} {t : List Value} {M : Mem}
def calmOps (ops : List Oper) : Bool := ops.all calmOp
theorem opIn_of_op {ro : Option Nat} {n : Nat} {a : Act} {w : World} {K : Act → World → Prop} {Q : Exit → Act → World → Prop} (hd : ∀ c, o.op ≠ .defer c) (h : o.wp P a w K Q) : o.wpIn (fence ro) n P a w K Q := by
 refine ⟨fun _ _ => trivial, ?_⟩
 rw [Oper.semAt_eq _ _ _ hd]
 unfold Oper.wp at h
 generalize (execOp a.eval o).run P w = r at h ⊢
 cases r with
 | ok nx w' =>
  cases nx with
  | value v => exact h
  | skip => exact h
  | defer d => exact h
  | enter f args => exact ⟨fun e => by simp [fence, Fence.wide] at e, callsIn_wide.2 h⟩
  | row s args =>
   refine ⟨fun e => by simp [fence, Fence.wide] at e, fun c cs _ => ?_⟩
   obtain ⟨v, w2, hR, hs⟩ := h c cs
   exact ⟨v, w2, hR, fence_steps.2 hs⟩
  | round l f ts x y => exact h.elim
  | _ => exact h.elim
 | halt s w' => cases s <;> first | exact h | exact h.elim
theorem opsIn_of_ops {ro : Option Nat} {n : Nat} {Q : Exit → Act → World → Prop} (hd : calmOps ops.toList = true) (hq : ¬ LetsOut Q) : ∀ (l : List Nat) (a : Act) (w : World), wpOps P ops Q l a w → wpOpsIn (fence ro) n P ops Q l a w
 | [], a, w, h => h
 | i :: l, a, w, h => by
  unfold wpOps at h
  unfold wpOpsIn
  cases ho : ops[i]? with
  | none => simp only [ho] at h ⊢; exact opsIn_of_ops hd hq l a w h
  | some o =>
   simp only [ho] at h ⊢
   have hmem : o ∈ ops.toList := by rw [← Array.getElem?_toList] at ho; exact List.mem_of_getElem? ho
   have hdo : ∀ c, o.op ≠ .defer c := by
    intro c e
    have := List.all_eq_true.1 hd o hmem
    unfold calmOp at this
    rw [e] at this
    cases this
   by_cases hw : Region.wanted o (yielded ops a.tmps) = true
   ·rw [if_pos hw] at h ⊢
    rcases h with h | ⟨_, h⟩
    ·exact opIn_of_op hdo (Oper.wp_mono (fun a w h => opsIn_of_ops hd hq l a w h) h)
    ·exact absurd h hq
   ·rw [if_neg hw] at h ⊢
    exact ⟨fun _ _ => trivial, opsIn_of_ops hd hq l _ w h⟩
theorem AL.nil (h : K t M) : AL P ops [] K t M := fun ro ι N0 a w Q r hc => wpListIn_nil (hc t M ι a w r (Ext.refl _ _ _ _) h)
theorem AL.op (hok : okOpds o = true) (hw : wantA ops o t = true) (h : AOp P o (ev t) M fun v M' => AL P ops rest K (putT t o.dst v) M') : AL P ops (o :: rest) K t M := by
 intro ro ι N0 a w Q r hc
 refine wpListIn_step fun KC hK => ?_
 rw [wantA_eq r.tmps, hw, if_pos rfl]
 refine opIn_of_op (okOpds_calm hok) (h ι N0 a w KC Q (ORel.of r.tmps hok) r.mem ?_)
 intro v v' M' ι' w' h1 h2 h3 h4
 refine hK _ _ (h4 ro ι' N0 _ w' Q ⟨(r.tmps.mono h3.inj).put _ h1, h2, by rw [put_defers]; exact r.defers.keep h3.below⟩ ?_)
 intro t2 M2 ι2 a2 w2 r2 x2 k2
 exact hc t2 M2 ι2 a2 w2 r2 (h3.trans x2) k2
theorem AL.skip (hw : wantA ops o t = false) (h : AL P ops rest K (putT t o.dst undef) M) : AL P ops (o :: rest) K t M := by
 intro ro ι N0 a w Q r hc
 refine wpListIn_step fun KC hK => ?_
 rw [wantA_eq r.tmps, hw, if_neg (by simp)]
 exact ⟨fun _ _ => trivial, hK _ _ (h ro ι N0 _ w Q ⟨r.tmps.put _ (VRel.undef ι), r.mem, by rw [put_defers]; exact r.defers⟩ hc)⟩
theorem AL.mono {l : List Oper} {K' : List Value → Mem → Prop} (h : AL P ops l K t M) (hk : ∀ t M, K t M → K' t M) : AL P ops l K' t M :=
 fun ro ι N0 a w Q r hc => h ro ι N0 a w Q r fun t' M' ι' a' w' r' x' k' => hc t' M' ι' a' w' r' x' (hk _ _ k')
theorem AL.yield {g : Operand} {args : Array Operand} {tys : Array TypeId} (ho : o.op = .call { callee := .value g, args, argTypes := tys }) (hok : okOpds o = true) (hw : wantA ops o t = true) {l : Nat} (hg : ev t g = .func (.yield l) #[] #[])
  {R : Bool → Mem → Prop} (hy : YieldA P l (args.toList.map (ev t)) M R) (h : ∀ b M', R b M' → AL P ops rest K (putT t o.dst (.bool b)) M') : AL P ops (o :: rest) K t M := by
 intro ro ι N0 a w Q r hc
 refine wpListIn_step fun KC hK => ?_
 rw [wantA_eq r.tmps, hw, if_pos rfl]
 have hor := ORel.of r.tmps hok
 have hrg := hor g (by rw [ho]; simp [Op.operands, Call.operands])
 have hra : LRel ι (args.toList.map (ev t)) (args.toList.map a.eval) := by
  refine LRel.of_get (by simp) fun j v hj => ?_
  simp only [List.getElem?_map, Option.map_eq_some_iff] at hj ⊢
  obtain ⟨x, hx, rfl⟩ := hj
  exact ⟨_, ⟨x, hx, rfl⟩, hor x (by rw [ho]; simp [Op.operands, Call.operands]; exact .inr (by simpa using List.mem_of_getElem? hx))⟩
 rw [hg] at hrg
 generalize hz : a.eval g = z at hrg
 cases hrg with
 | func fn hy' => exact absurd rfl (hy' l)
 | yield _ loc hl =>
  obtain ⟨fn, tmps, x, y, h1, h2⟩ := hy ι N0 _ w loc r.mem hl hra
  refine ⟨fun _ _ => trivial, ?_⟩
  rw [Oper.semAt_eq _ _ _ (by intro c e; rw [ho] at e; cases e)]
  have hm' : args.map a.eval = (args.toList.map a.eval).toArray := by apply Array.ext'; simp
  have hrun : (execOp a.eval o).run P w = .ok (.round loc.g fn tmps x y) w := by
   simp only [execOp, ho, resolve, hz, Deferred.ofValue, invoke, Sem.run_bind, Sem.run_pure, Result.andThen_ok, hm']
   simpa using h1
  rw [hrun]
  refine ⟨fun e => by simp [fence, Fence.wide] at e, ?_⟩
  refine RoundIn.mono (F := fence ro) (n := 0 - 1) h2 ?_
  rintro e w' ⟨b, M', ι', rfl, h3, h4, h5⟩
  exact hK _ _ (h b M' h5 ro ι' N0 _ w' Q ⟨(r.tmps.mono h4.inj).put _ (.bool b), h3, by rw [put_defers]; exact r.defers.keep h4.below⟩ fun t2 M2 ι2 a2 w2 r2 x2 k2 => hc t2 M2 ι2 a2 w2 r2 (h4.trans x2) k2)
theorem AW.region {id : Nat} {l : List Oper} {Q : Exit → List Value → Mem → Prop} (h : AL P l.toArray l (Q .normal) t M) : AW P (.region id l.toArray false) Q t M := by
 intro ro hr ι N0 a w r
 exact wpIn_region_lit (h ro ι N0 a w _ r fun t' M' ι' a' w' r' x' k' => ⟨t', M', ι', r', x', k'⟩)
end
section
variable {P : Program} {o : Oper} {ρ ρ1 : Operand → Value}
theorem ORel.congr {ι : Inj} {ρ' : Operand → Value} (h : ∀ x ∈ o.op.operands, ρ x = ρ1 x) (hr : ORel ι ρ1 ρ' o) : ORel ι ρ ρ' o := fun x hx => by rw [h x hx]; exact hr x hx
theorem PureA.congr {v : Value} (h : ∀ x ∈ o.op.operands, ρ x = ρ1 x) (hp : PureA P o ρ v) : PureA P o ρ1 v := fun ι ρ' hr => hp ι ρ' (ORel.congr h hr)
theorem LoadA.congr {v : Value} {L : Mem → Prop} (h : ∀ x ∈ o.op.operands, ρ x = ρ1 x) (hp : LoadA P o ρ L v) : LoadA P o ρ1 L v := fun ι N0 ρ' M w hm hl hr => hp ι N0 ρ' M w hm hl (ORel.congr h hr)
theorem FreshA.congr {v : Nat → Value} {B : Blk} (h : ∀ x ∈ o.op.operands, ρ x = ρ1 x) (hp : FreshA P o ρ B v) : FreshA P o ρ1 B v := fun ι N0 ρ' b w hn hb hr => hp ι N0 ρ' b w hn hb (ORel.congr h hr)
end
theorem ev_put {t : List Value} {d : Option Tmp} {v : Value} {x : Operand} (h : ∀ e, d = some e → x ≠ .tmp e) : ev (putT t d v) x = ev t x := by
 cases d with
 | none => rfl
 | some d =>
  cases x with
  | tmp i =>
   have hne : d ≠ i := fun e => h d rfl (e ▸ rfl)
   simp [ev, putT, List.getD_eq_getElem?_getD, List.getElem?_set_ne hne]
  | _ => rfl
theorem putT_comm (t : List Value) {x y : Option Tmp} (v u : Value) (h : ∀ d, x = some d → y ≠ some d) : putT (putT t x v) y u = putT (putT t y u) x v := by
 cases x with
 | none => rfl
 | some d =>
  cases y with
  | none => rfl
  | some e =>
   have hne : d ≠ e := fun he => h d rfl (he ▸ rfl)
   simp only [putT]
   exact List.set_comm _ _ hne
theorem wantA_put {ops : Array Oper} {o : Oper} {t : List Value} {d : Option Tmp} {v : Value} (h : ∀ e, d = some e → e ∉ o.looksAt ops) : wantA ops o (putT t d v) = wantA ops o t := by
 cases d with
 | none => rfl
 | some d =>
  unfold wantA
  cases hg : o.guard with
  | none => rfl
  | some gw =>
   obtain ⟨g, want⟩ := gw
   have hy : yieldA ops (putT t (some d) v) g = yieldA ops t g := by
    unfold yieldA
    cases ht : (ops[g]?).bind (·.dst) with
    | none => rfl
    | some u =>
     have hne : d ≠ u := fun e => h d rfl (by subst e; simp [Oper.looksAt, hg, ht])
     simp [putT, List.getElem?_set_ne hne]
   simp only [hy]
theorem looks_opd {ops : Array Oper} {o : Oper} {d : Tmp} (h : d ∉ o.looksAt ops) : ∀ x ∈ o.op.operands, x ≠ .tmp d := by
 intro x hx e
 subst e
 exact h (List.mem_append_left _ (List.mem_filterMap.2 ⟨.tmp d, by simpa using hx, rfl⟩))
def QK (P : Program) (ops : Array Oper) (Ls : List (Nat × (Mem → Prop))) (o : Oper) (i : Nat) (t : List Value) (v : Value) (ids : List (Nat × Blk)) : Prop :=
 (wantA ops o t = false ∧ v = undef ∧ ids = []) ∨
 (wantA ops o t = true ∧ okOpds o = true ∧
  ((PureA P o (ev t) v ∧ ids = []) ∨ (∃ L, (i, L) ∈ Ls ∧ LoadA P o (ev t) L v ∧ ids = []) ∨ (∃ B mk b, FreshA P o (ev t) B mk ∧ v = mk b ∧ ids = [(b, B)])))
theorem QK.put {P : Program} {ops : Array Oper} {Ls : List (Nat × (Mem → Prop))} {o : Oper} {i : Nat} {t : List Value} {v u : Value} {ids : List (Nat × Blk)} {d : Option Tmp} (h : ∀ e, d = some e → e ∉ o.looksAt ops) :
  QK P ops Ls o i (putT t d u) v ids ↔ QK P ops Ls o i t v ids := by
 have he : ∀ x ∈ o.op.operands, ev (putT t d u) x = ev t x := fun x hx => ev_put fun e hd => looks_opd (h e hd) x hx
 have he' : ∀ x ∈ o.op.operands, ev t x = ev (putT t d u) x := fun x hx => (he x hx).symm
 unfold QK
 rw [wantA_put h]
 constructor
 ·rintro (h1 | ⟨h1, h2, h3⟩)
  ·exact .inl h1
  ·refine .inr ⟨h1, h2, ?_⟩
   rcases h3 with ⟨a, b⟩ | ⟨L, a, b, c⟩ | ⟨B, mk, x, a, b, c⟩
   ·exact .inl ⟨a.congr he, b⟩
   ·exact .inr (.inl ⟨L, a, b.congr he, c⟩)
   ·exact .inr (.inr ⟨B, mk, x, a.congr he, b, c⟩)
 ·rintro (h1 | ⟨h1, h2, h3⟩)
  ·exact .inl h1
  ·refine .inr ⟨h1, h2, ?_⟩
   rcases h3 with ⟨a, b⟩ | ⟨L, a, b, c⟩ | ⟨B, mk, x, a, b, c⟩
   ·exact .inl ⟨a.congr he', b⟩
   ·exact .inr (.inl ⟨L, a, b.congr he', c⟩)
   ·exact .inr (.inr ⟨B, mk, x, a.congr he', b, c⟩)
theorem QK.mono {P : Program} {ops : Array Oper} {Ls Ls' : List (Nat × (Mem → Prop))} {o : Oper} {i : Nat} {t : List Value} {v : Value} {ids : List (Nat × Blk)} (h : QK P ops Ls o i t v ids) (hl : ∀ L, (i, L) ∈ Ls → (i, L) ∈ Ls') : QK P ops Ls' o i t v ids := by
 rcases h with h1 | ⟨h1, h2, h3⟩
 ·exact .inl h1
 ·refine .inr ⟨h1, h2, ?_⟩
  rcases h3 with h3 | ⟨L, a, b, c⟩ | h3
  ·exact .inl h3
  ·exact .inr (.inl ⟨L, hl _ a, b, c⟩)
  ·exact .inr (.inr h3)
inductive Pends (P : Program) (ops : Array Oper) (Ls : List (Nat × (Mem → Prop))) : List Value → List Nat → List (Nat × Blk) → List Value → Prop
 | nil (t : List Value) : Pends P ops Ls t [] [] t
 | cons (t : List Value) (i : Nat) (o : Oper) (v : Value) (σ : List Nat) (ids ids' : List (Nat × Blk)) (t' : List Value) (ho : ops[i]? = some o) (hq : QK P ops Ls o i t v ids)
   (h : Pends P ops Ls (putT t o.dst v) σ ids' t') : Pends P ops Ls t (i :: σ) (ids ++ ids') t'
def Free (ops : Array Oper) (x y : Nat) : Prop := ∀ ox oy, ops[x]? = some ox → ops[y]? = some oy → (∃ e ∈ oy.after, Region.binds .any e = true ∧ e.on = x) ∨ ox.apart ops oy = true
def Apart (ops : Array Oper) (x y : Nat) : Prop := ∀ ox oy, ops[x]? = some ox → ops[y]? = some oy → ox.apart ops oy = true
section
variable {P : Program} {ops : Array Oper} {Ls : List (Nat × (Mem → Prop))}
theorem Pends.snoc {t0 t : List Value} {σ : List Nat} {ids ids1 : List (Nat × Blk)} (h : Pends P ops Ls t0 σ ids t) {i : Nat} {o : Oper} {v : Value} (ho : ops[i]? = some o) (hq : QK P ops Ls o i t v ids1) :
  Pends P ops Ls t0 (σ ++ [i]) (ids ++ ids1) (putT t o.dst v) := by
 induction h with
 | nil t => have := Pends.cons t i o v [] ids1 [] _ ho hq (.nil _); simpa using this
 | cons t j oj u σ ids2 ids3 t' hoj hqj h ih => have := Pends.cons t j oj u _ ids2 _ _ hoj hqj (ih hq); simpa using this
theorem Pends.mono {Ls' : List (Nat × (Mem → Prop))} {t0 t : List Value} {σ : List Nat} {ids : List (Nat × Blk)} (h : Pends P ops Ls t0 σ ids t) (hl : ∀ i ∈ σ, ∀ L, (i, L) ∈ Ls → (i, L) ∈ Ls') : Pends P ops Ls' t0 σ ids t := by
 induction h with
 | nil t => exact .nil t
 | cons t j oj u σ ids2 ids3 t' hoj hqj h ih =>
  exact .cons t j oj u σ ids2 ids3 t' hoj (hqj.mono (hl j (by simp))) (ih fun i hi => hl i (by simp [hi]))
theorem Pends.front {σ1 σ2 : List Nat} {y : Nat} : ∀ {t0 t : List Value} {ids : List (Nat × Blk)}, Pends P ops Ls t0 (σ1 ++ y :: σ2) ids t → (∀ x ∈ σ1, Apart ops x y) →
  ∃ ids', ids'.Perm ids ∧ Pends P ops Ls t0 (y :: (σ1 ++ σ2)) ids' t := by
 induction σ1 with
 | nil => exact fun h _ => ⟨_, List.Perm.refl _, h⟩
 | cons j σ1 ih =>
  intro t0 t ids h hap
  cases h with
  | cons _ _ oj u _ ids2 ids3 _ hoj hqj h =>
   obtain ⟨ids', hp, h'⟩ := ih h fun x hx => hap x (by simp [hx])
   have hj : Apart ops j y := hap j (by simp)
   cases h' with
   | cons _ _ oy v _ idy idr _ hoy hqy hr =>
    obtain ⟨a1, a2, a3⟩ := Oper.apart_spec (hj oj oy hoj hoy)
    have q1 := (QK.put a1).1 hqy
    have q2 := (QK.put (u := v) (d := oy.dst) a3).2 hqj
    refine ⟨idy ++ (ids2 ++ idr), ?_, ?_⟩
    ·have h1 : (idy ++ (ids2 ++ idr)).Perm (ids2 ++ (idy ++ idr)) := by
      rw [← List.append_assoc, ← List.append_assoc]
      exact List.perm_append_comm.append_right idr
     exact h1.trans (hp.append_left ids2)
    ·refine .cons _ y oy v _ idy _ _ hoy q1 ?_
     refine .cons _ j oj u _ ids2 idr _ hoj q2 ?_
     rw [← putT_comm t0 u v a2]
     exact hr
theorem Pends.keeps {t0 t : List Value} {σ : List Nat} {ids : List (Nat × Blk)} (h : Pends P ops Ls t0 σ ids t) {y : Nat} {oy : Oper} (hoy : ops[y]? = some oy) (hap : ∀ x ∈ σ, Apart ops x y) :
  (∀ x ∈ oy.op.operands, ev t x = ev t0 x) ∧ wantA ops oy t = wantA ops oy t0 := by
 induction h with
 | nil t => exact ⟨fun _ _ => rfl, rfl⟩
 | cons t j oj u σ ids2 ids3 t' hoj hqj h ih =>
  obtain ⟨i1, i2⟩ := ih fun x hx => hap x (by simp [hx])
  obtain ⟨a1, a2, a3⟩ := Oper.apart_spec (hap j (by simp) oj oy hoj hoy)
  exact ⟨fun x hx => (i1 x hx).trans (ev_put fun e hd => looks_opd (a1 e hd) x hx), i2.trans (wantA_put a1)⟩
theorem Pends.put {t0 t : List Value} {σ : List Nat} {ids : List (Nat × Blk)} (h : Pends P ops Ls t0 σ ids t) {y : Nat} {oy : Oper} (hoy : ops[y]? = some oy) (hap : ∀ x ∈ σ, Apart ops x y) (u : Value) :
  Pends P ops Ls (putT t0 oy.dst u) σ ids (putT t oy.dst u) := by
 induction h with
 | nil t => exact .nil _
 | cons t j oj v σ ids2 ids3 t' hoj hqj h ih =>
  obtain ⟨a1, a2, a3⟩ := Oper.apart_spec (hap j (by simp) oj oy hoj hoy)
  refine .cons _ j oj v σ ids2 ids3 _ hoj ((QK.put a3).2 hqj) ?_
  rw [← putT_comm t v u a2]
  exact ih fun x hx => hap x (by simp [hx])
end
def okOps (ops : Array Oper) : Bool := (List.range ops.size).all fun i => match ops[i]? with
 | some o => o.after.toList.all fun e => !Region.binds .any e || decide (e.on < i)
 | none => true
theorem okOps_spec {ops : Array Oper} (h : okOps ops = true) {i : Nat} {o : Oper} (ho : ops[i]? = some o) {e : Edge} (he : e ∈ o.after) (hb : Region.binds .any e = true) : e.on < i := by
 have hi : i < ops.size := (Array.getElem?_eq_some_iff.1 ho).1
 have := List.all_eq_true.1 h i (by simpa using hi)
 simp only [ho, List.all_eq_true] at this
 have := this e (by simpa using he)
 simpa [hb] using this
inductive Anc (ops : Array Oper) : Nat → Nat → Prop
 | dir (k : Nat) (o : Oper) (e : Edge) (ho : ops[k]? = some o) (he : e ∈ o.after) (hb : Region.binds .any e = true) : Anc ops e.on k
 | step (i k : Nat) (o : Oper) (e : Edge) (ho : ops[k]? = some o) (he : e ∈ o.after) (hb : Region.binds .any e = true) (h : Anc ops i e.on) : Anc ops i k
def maskOf (o : Oper) (acc : List Nat) : Nat := o.after.toList.foldl (fun s e => if Region.binds .any e then s ||| 2 ^ e.on ||| acc.getD e.on 0 else s) 0
def masksGo : List Oper → List Nat → List Nat
 | [], acc => acc
 | o :: l, acc => masksGo l (acc ++ [maskOf o acc])
def bef (ops : Array Oper) (i k : Nat) : Bool := ((masksGo ops.toList []).getD k 0).testBit i
theorem maskOf_bit {acc : List Nat} {i : Nat} : ∀ (l : List Edge) (s : Nat), (l.foldl (fun s e => if Region.binds .any e then s ||| 2 ^ e.on ||| acc.getD e.on 0 else s) s).testBit i = true →
  s.testBit i = true ∨ ∃ e ∈ l, Region.binds .any e = true ∧ (i = e.on ∨ (acc.getD e.on 0).testBit i = true)
 | [], s, h => .inl h
 | e :: l, s, h => by
  rw [List.foldl_cons] at h
  rcases maskOf_bit l _ h with h1 | ⟨e', he', h2⟩
  ·by_cases hb : Region.binds .any e = true
   ·rw [if_pos hb] at h1
    simp only [Nat.testBit_or, Bool.or_eq_true, Nat.testBit_two_pow, decide_eq_true_eq] at h1
    rcases h1 with (h1 | h1) | h1
    ·exact .inl h1
    ·exact .inr ⟨e, by simp, hb, .inl h1.symm⟩
    ·exact .inr ⟨e, by simp, hb, .inr h1⟩
   ·rw [if_neg hb] at h1; exact .inl h1
  ·exact .inr ⟨e', by simp [he'], h2⟩
theorem masksGo_anc {ops : Array Oper} : ∀ (l : List Oper) (acc : List Nat), (∀ j, l[j]? = ops[acc.length + j]?) → (∀ k i, (acc.getD k 0).testBit i = true → Anc ops i k) → ∀ k i, ((masksGo l acc).getD k 0).testBit i = true → Anc ops i k
 | [], acc, _, h, k, i, hk => h k i hk
 | o :: l, acc, ho, h, k, i, hk => by
  refine masksGo_anc l (acc ++ [maskOf o acc]) (fun j => by have := ho (j + 1); simpa [Nat.add_assoc, Nat.add_comm 1 j] using this) ?_ k i hk
  intro k i hk
  have h0 : ops[acc.length]? = some o := by simpa using (ho 0).symm
  rcases Nat.lt_trichotomy k acc.length with hlt | he | hgt
  ·refine h k i ?_
   rwa [List.getD_eq_getElem?_getD, List.getElem?_append_left hlt, ← List.getD_eq_getElem?_getD] at hk
  ·subst he
   simp only [List.getD_eq_getElem?_getD, List.getElem?_append_right (Nat.le_refl _), Nat.sub_self, List.getElem?_cons_zero, Option.getD_some] at hk
   rcases maskOf_bit _ _ hk with h1 | ⟨e, he, hb, h2⟩
   ·simp at h1
   ·rcases h2 with h2 | h2
    ·subst h2; exact .dir _ o e h0 (by simpa using he) hb
    ·exact .step i _ o e h0 (by simpa using he) hb (h e.on i h2)
  ·rw [List.getD_eq_getElem?_getD, List.getElem?_eq_none (by simp; omega)] at hk
   simp at hk
theorem bef_anc {ops : Array Oper} {i k : Nat} (h : bef ops i k = true) : Anc ops i k :=
 masksGo_anc ops.toList [] (fun j => by simp) (fun k i hk => by simp at hk) k i h
def lst (listed : Array Bool) (i : Nat) : Prop := listed.getD i false = true
def Closed (ops : Array Oper) (listed : Array Bool) : Prop := ∀ i o, lst listed i → ops[i]? = some o → ∀ e ∈ o.after, Region.binds .any e = true → lst listed e.on
theorem Anc.listed {ops : Array Oper} {listed : Array Bool} (hc : Closed ops listed) {i k : Nat} (h : Anc ops i k) (hk : ∀ o, ops[k]? = some o → ∀ e ∈ o.after, Region.binds .any e = true → lst listed e.on) : lst listed i := by
 induction h with
 | dir k o e ho he hb => exact hk o ho e he hb
 | step i k o e ho he hb h ih => exact ih fun o' ho' e' he' hb' => hc e.on o' (hk o ho e he hb) ho' e' he' hb'
structure DInv (P : Program) (ops : Array Oper) (done : List Nat) (Ls : List (Nat × (Mem → Prop))) (t : List Value) (M : Mem) (ιs : Inj) (Ms : Mem) (ws : World) (N0 : Base)
  (listed : Array Bool) (σ : List Nat) (ids : List (Nat × Blk)) (t0 : List Value) (ι : Inj) (a : Act) (w : World) : Prop where
 rel : Rel ι N0 t0 M a w
 pends : Pends P ops Ls t0 σ ids t
 size : listed.size = ops.size
 dn : ∀ i, i ∈ done ↔ lst listed i ∨ i ∈ σ
 nd : σ.Nodup
 un : ∀ i ∈ σ, ¬ lst listed i
 cl : Closed ops listed
 pw : σ.Pairwise (Free ops)
 fr : ∀ x ∈ σ, ∀ j, j ∉ done → Free ops x j
 idf : ∀ p ∈ ids, M[p.1]? = some p.2 ∧ ι p.1 = none ∧ Ms.length ≤ p.1
 idn : (ids.map (·.1)).Nodup
 ls : ∀ p ∈ Ls, p.2 M
 ext : Ext ιs N0 Ms ws ι M w
def unl (listed : Array Bool) (n : Nat) : Nat := ((List.range n).filter fun i => !listed.getD i true).length
theorem mem_unl {listed : Array Bool} {n i : Nat} (h : listed.size = n) (hi : i < n) (hl : ¬ lst listed i) : listed.getD i true = false := by
 unfold lst at hl
 simp [h, hi] at hl ⊢
 simpa using hl
theorem lst_set {listed : Array Bool} {i j : Nat} : lst (listed.setIfInBounds i true) j ↔ lst listed j ∨ (j = i ∧ i < listed.size) := by
 unfold lst
 by_cases e : i = j
 ·subst e
  by_cases hi : i < listed.size
  ·simp [hi]
  ·simp [Array.setIfInBounds, hi]
 ·rw [getD_set_ne false e]; simp [Ne.symm e]
theorem unl_set {listed : Array Bool} {n i : Nat} (h : listed.size = n) (hi : i < n) (hl : ¬ lst listed i) : unl (listed.setIfInBounds i true) n < unl listed n := by
 unfold unl
 have hsub : ((List.range n).filter fun j => !(listed.setIfInBounds i true).getD j true) = ((List.range n).filter fun j => !listed.getD j true).filter fun j => j != i := by
  rw [List.filter_filter]
  refine List.filter_congr fun j hj => ?_
  by_cases e : i = j
  ·subst e; simp [h, hi]
  ·rw [getD_set_ne true e]; simp [Ne.symm e]
 rw [hsub]
 have hmem : i ∈ (List.range n).filter fun j => !listed.getD j true := by simp [hi]; simpa using mem_unl h hi hl
 have hlt := List.length_filter_lt_length_iff_exists (p := fun j => j != i) (l := (List.range n).filter fun j => !listed.getD j true)
 exact hlt.2 ⟨i, hmem, by simp⟩
theorem ready_lst {ops : Array Oper} {listed : Array Bool} (h : listed.size = ops.size) {j : Nat} : j ∈ Region.ready .any ops listed ↔ ¬ lst listed j ∧ ∃ o, ops[j]? = some o ∧ ∀ e ∈ o.after, Region.binds .any e = true → lst listed e.on := by
 rw [mem_ready]
 constructor
 ·rintro ⟨h0, o, ho, h1⟩
  refine ⟨?_, o, ho, h1⟩
  have hj : j < listed.size := by rw [h]; exact (Array.getElem?_eq_some_iff.1 ho).1
  unfold lst
  simp [hj] at h0 ⊢
  exact h0
 ·rintro ⟨h0, o, ho, h1⟩
  exact ⟨mem_unl h (Array.getElem?_eq_some_iff.1 ho).1 h0, o, ho, h1⟩
theorem ready_some {ops : Array Oper} (hok : okOps ops = true) {listed : Array Bool} (h : listed.size = ops.size) : ∀ i, i < ops.size → ¬ lst listed i → Region.ready .any ops listed ≠ [] := by
 intro i
 induction i using Nat.strongRecOn with
 | _ i ih =>
  intro hi hl
  obtain ⟨o, ho⟩ : ∃ o, ops[i]? = some o := ⟨_, Array.getElem?_eq_getElem hi⟩
  by_cases hall : ∀ e ∈ o.after, Region.binds .any e = true → lst listed e.on
  ·intro he
   have := (ready_lst h).2 ⟨hl, o, ho, hall⟩
   rw [he] at this
   cases this
  ·simp only [Classical.not_forall] at hall
   obtain ⟨e, he, hb, hn⟩ := hall
   have hlt := okOps_spec hok ho he hb
   exact ih e.on hlt (Nat.lt_trans hlt hi) hn
section
variable {P : Program} {ops : Array Oper} {done : List Nat} {Ls : List (Nat × (Mem → Prop))} {t : List Value} {M : Mem} {ιs : Inj} {Ms : Mem} {ws : World} {N0 : Base}
theorem DInv.pend {listed : Array Bool} {σ1 σ2 : List Nat} {y : Nat} {ids : List (Nat × Blk)} {t0 : List Value} {ι : Inj} {a : Act} {w : World} {Q : Exit → Act → World → Prop} {K : Act → World → Prop}
  (d : DInv P ops done Ls t M ιs Ms ws N0 listed (σ1 ++ y :: σ2) ids t0 ι a w) (hy : y ∈ Region.ready .any ops listed)
  (hK : ∀ ids' t0' ι' a' w', DInv P ops done Ls t M ιs Ms ws N0 (listed.setIfInBounds y true) (σ1 ++ σ2) ids' t0' ι' a' w' → K a' w') : wpOp P ops Q y K a w := by
 obtain ⟨hyl, oy, hoy, hall⟩ := (ready_lst d.size).1 hy
 have hylt : y < ops.size := (Array.getElem?_eq_some_iff.1 hoy).1
 have hpw := List.pairwise_append.1 d.pw
 have hap : ∀ x ∈ σ1, Apart ops x y := by
  intro x hx ox oy' hox hoy'
  rw [hoy] at hoy'
  obtain rfl := Option.some.inj hoy'
  rcases hpw.2.2 x hx y (by simp) ox oy hox hoy with ⟨e, he, hb, heq⟩ | h
  ·exact absurd (heq ▸ hall e he hb) (d.un x (by simp [hx]))
  ·exact h
 obtain ⟨ids', hperm, hp⟩ := d.pends.front hap
 cases hp with
 | cons _ _ oy' v _ ids1 ids2 _ hoy' hq hr =>
  rw [hoy] at hoy'
  obtain rfl := Option.some.inj hoy'
  have hidm : ∀ p, p ∈ ids2 → p ∈ ids := fun p hp => hperm.mem_iff.1 (by simp [hp])
  have hidn : ((ids1 ++ ids2).map (·.1)).Nodup := (hperm.map _).nodup_iff.2 d.idn
  have hnd : (σ1 ++ σ2).Nodup := d.nd.sublist (by simp)
  have hynot : y ∉ σ1 ++ σ2 := by
   intro hmem
   have := (List.perm_middle (l₁ := σ1) (l₂ := σ2) (a := y)).nodup_iff.1 d.nd
   exact (List.nodup_cons.1 this).1 hmem
  have mk : ∀ ids3 ι' v' w', (∀ p ∈ ids3, p ∈ ids ∧ ι' p.1 = none) → (ids3.map (·.1)).Nodup → Pends P ops Ls (putT t0 oy.dst v) (σ1 ++ σ2) ids3 t → VRel ι' v v' → LRel ι' t0 a.tmps.toList → MRel ι' N0 M w' → Low N0 w w' → Ext ιs N0 Ms ws ι' M w' →
    DInv P ops done Ls t M ιs Ms ws N0 (listed.setIfInBounds y true) (σ1 ++ σ2) ids3 (putT t0 oy.dst v) ι' (a.put oy.dst v') w' := by
   intro ids3 ι' v' w' h1 h2 h3 h4 h5 h6 hlo h7
   refine ⟨⟨h5.put _ h4, h6, by rw [put_defers]; exact d.rel.defers.keep hlo⟩, h3, by simp [d.size], ?_, hnd, ?_, ?_, ?_, ?_, ?_, h2, d.ls, h7⟩
   ·intro i
    rw [d.dn, lst_set]
    constructor
    ·rintro (h | h)
     ·exact .inl (.inl h)
     ·simp only [List.mem_append, List.mem_cons] at h
      rcases h with h | h | h
      ·exact .inr (by simp [h])
      ·exact .inl (.inr ⟨h, by rw [d.size]; exact hylt⟩)
      ·exact .inr (by simp [h])
    ·rintro ((h | ⟨h, _⟩) | h)
     ·exact .inl h
     ·exact .inr (by simp [h])
     ·simp only [List.mem_append] at h
      rcases h with h | h <;> exact .inr (by simp [h])
   ·intro i hi
    rw [lst_set]
    rintro (h | ⟨h, _⟩)
    ·exact d.un i (by simp only [List.mem_append] at hi; rcases hi with h | h <;> simp [h]) h
    ·subst h; exact hynot hi
   ·intro i o hi ho e he hb
    rw [lst_set] at hi ⊢
    rcases hi with hi | ⟨hi, _⟩
    ·exact .inl (d.cl i o hi ho e he hb)
    ·subst hi
     rw [hoy] at ho
     obtain rfl := Option.some.inj ho
     exact .inl (hall e he hb)
   ·exact d.pw.sublist (by simp)
   ·intro x hx
    exact d.fr x (by simp only [List.mem_append] at hx; rcases hx with h | h <;> simp [h])
   ·intro p hp
    obtain ⟨a1, a2⟩ := h1 p hp
    exact ⟨(d.idf p a1).1, a2, (d.idf p a1).2.2⟩
  unfold wpOp
  simp only [hoy]
  rw [wantA_eq d.rel.tmps]
  rcases hq with ⟨hw, rfl, rfl⟩ | ⟨hw, hok, hq⟩
  ·rw [hw, if_neg (by simp)]
   exact hK _ _ _ _ _ (mk ids2 ι undef w (fun p hp => ⟨hidm p hp, (d.idf p (hidm p hp)).2.1⟩) hidn hr (VRel.undef ι) d.rel.tmps d.rel.mem (Low.refl _ _) d.ext)
  ·rw [hw, if_pos rfl]
   refine .inl ?_
   have hor := ORel.of d.rel.tmps hok
   unfold Oper.wp
   rcases hq with ⟨hq, rfl⟩ | ⟨L, hL, hq, rfl⟩ | ⟨B, mkv, b, hq, rfl, rfl⟩
   ·obtain ⟨v', h1, h2⟩ := hq ι a.eval hor
    rw [h2]
    exact hK _ _ _ _ _ (mk ids2 ι v' w (fun p hp => ⟨hidm p hp, (d.idf p (hidm p hp)).2.1⟩) hidn hr h1 d.rel.tmps d.rel.mem (Low.refl _ _) d.ext)
   ·obtain ⟨v', h1, h2⟩ := hq ι N0 a.eval M w d.rel.mem (d.ls _ hL) hor
    rw [h2]
    exact hK _ _ _ _ _ (mk ids2 ι v' w (fun p hp => ⟨hidm p hp, (d.idf p (hidm p hp)).2.1⟩) hidn hr h1 d.rel.tmps d.rel.mem (Low.refl _ _) d.ext)
   ·have hb := d.idf (b, B) (hperm.mem_iff.1 (by simp))
    obtain ⟨obj, v', l, h1, h2, h3, h4⟩ := hq ι N0 a.eval b w hb.2.1 d.rel.mem.base hor
    rw [h1]
    have hle := Inj.upd_le (l := l) hb.2.1
    refine hK _ _ _ _ _ (mk ids2 (ι.upd b l) v' (w.alloc obj) (fun p hp => ⟨hidm p hp, ?_⟩) (by simpa using (List.nodup_cons.1 (by simpa using hidn)).2) hr h3 (d.rel.tmps.mono hle) (d.rel.mem.lay hb.1 hb.2.1 h2 h4) ((Low.refl _ _).alloc d.rel.mem.base _) ?_)
    ·have hne : p.1 ≠ b := by
      intro e
      have := (List.nodup_cons.1 (by simpa using hidn : (b :: ids2.map (·.1)).Nodup)).1
      exact this (e ▸ List.mem_map_of_mem hp)
     unfold Inj.upd
     rw [if_neg hne]
     exact (d.idf p (hidm p hp)).2.1
    ·refine ⟨fun x y hx => hle x y (d.ext.inj x y hx), fun x hx hn => ?_, d.ext.len, d.ext.below.alloc d.rel.mem.base _⟩
     obtain ⟨e1, e2⟩ := d.ext.pend x hx hn
     refine ⟨?_, e2⟩
     have := hb.2.2
     unfold Inj.upd
     rw [if_neg (by simp at this; omega)]
     exact e1
theorem DInv.run (hok : okOps ops = true) {Q : Exit → Act → World → Prop}
  (hstep : ∀ fuel listed σ ids t0 ι a w, DInv P ops done Ls t M ιs Ms ws N0 listed σ ids t0 ι a w → unl listed ops.size ≤ fuel + 1 → ∀ i, i ∈ Region.ready .any ops listed → i ∉ done → wpOp P ops Q i (wpAny P .any ops Q fuel (listed.setIfInBounds i true)) a w)
  (hfin : ∀ listed σ ids t0 ι a w, DInv P ops done Ls t M ιs Ms ws N0 listed σ ids t0 ι a w → (∀ i, i < ops.size → lst listed i) → Q .normal a w) :
  ∀ fuel listed σ ids t0 ι a w, DInv P ops done Ls t M ιs Ms ws N0 listed σ ids t0 ι a w → unl listed ops.size ≤ fuel → wpAny P .any ops Q fuel listed a w := by
 have hend : ∀ listed : Array Bool, listed.size = ops.size → Region.ready .any ops listed = [] → ∀ i, i < ops.size → lst listed i := by
  intro listed hs hr i hi
  exact Classical.byContradiction fun hn => ready_some hok hs i hi hn hr
 intro fuel
 induction fuel with
 | zero =>
  intro listed σ ids t0 ι a w d hf
  have hall : ∀ i, i < ops.size → lst listed i := by
   intro i hi
   refine Classical.byContradiction fun hn => ?_
   have := unl_set d.size hi hn
   omega
  refine ⟨?_, hfin _ _ _ _ _ _ _ d hall⟩
  rw [List.eq_nil_iff_forall_not_mem]
  intro j hj
  obtain ⟨h1, o, ho, _⟩ := (ready_lst d.size).1 hj
  exact h1 (hall j (Array.getElem?_eq_some_iff.1 ho).1)
 | succ fuel ih =>
  intro listed σ ids t0 ι a w d hf
  refine ⟨fun hr => hfin _ _ _ _ _ _ _ d (hend listed d.size hr), fun i hi => ?_⟩
  by_cases hd : i ∈ done
  ·obtain ⟨hil, o, ho, _⟩ := (ready_lst d.size).1 hi
   have hiσ := ((d.dn i).1 hd).resolve_left hil
   obtain ⟨σ1, σ2, rfl⟩ := List.append_of_mem hiσ
   refine d.pend hi fun ids' t0' ι' a' w' d' => ih _ _ _ _ _ _ _ d' ?_
   have := unl_set d.size (Array.getElem?_eq_some_iff.1 ho).1 hil
   omega
  ·exact hstep fuel listed σ ids t0 ι a w d hf i hi hd
end
def AD (P : Program) (ops : Array Oper) (done : List Nat) (Ls : List (Nat × (Mem → Prop))) (K : List Value → Mem → Prop) (t : List Value) (M : Mem) : Prop :=
 ∀ fuel listed σ ids t0 ι N0 a w Q ιs Ms ws, DInv P ops done Ls t M ιs Ms ws N0 listed σ ids t0 ι a w → unl listed ops.size ≤ fuel →
  (∀ t' M' ι' a' w', Rel ι' N0 t' M' a' w' → Ext ιs N0 Ms ws ι' M' w' → K t' M' → Q Exit.normal a' w') → wpAny P .any ops Q fuel listed a w
def afterOn (o : Oper) (i : Nat) : Bool := o.after.any fun e => Region.binds .any e && e.on == i
def freeOf (ops : Array Oper) (done : List Nat) (i : Nat) : Bool := match ops[i]? with
 | none => false
 | some oi => (List.range ops.size).all fun j => j == i || done.contains j || match ops[j]? with
  | some oj => afterOn oj i || oi.apart ops oj
  | none => true
def aloneOf (ops : Array Oper) (done : List Nat) (i : Nat) : Bool := (List.range ops.size).all fun j => j == i || done.contains j || match ops[j]? with
 | some oj => oj.after.any fun e => Region.binds .any e && !done.contains e.on
 | none => true
theorem freeOf_spec {ops : Array Oper} {done : List Nat} {i : Nat} (h : freeOf ops done i = true) (j : Nat) (hj : j ∉ i :: done) : Free ops i j := by
 intro oi oj hoi hoj
 unfold freeOf at h
 simp only [hoi, List.all_eq_true, List.mem_range] at h
 have := h j (Array.getElem?_eq_some_iff.1 hoj).1
 simp only [List.mem_cons, not_or] at hj
 simp only [hoj, Bool.or_eq_true, beq_iff_eq, List.contains_iff_mem, hj.1, hj.2, false_or] at this
 rcases this with h1 | h1
 ·left
  unfold afterOn at h1
  obtain ⟨e, he, hb⟩ := Array.any_eq_true'.1 h1
  simp only [Bool.and_eq_true, beq_iff_eq] at hb
  exact ⟨e, he, hb.1, hb.2⟩
 ·exact .inr h1
section
variable {P : Program} {ops : Array Oper} {done : List Nat} {Ls : List (Nat × (Mem → Prop))} {K : List Value → Mem → Prop} {t : List Value} {M : Mem}
theorem AD.takeQ {i : Nat} {o : Oper} {v : Value} {ids1 : List (Nat × Blk)} {Ls1 : List (Nat × (Mem → Prop))} {M1 : Mem} (ho : ops[i]? = some o) (hd : i ∉ done) (hf : freeOf ops done i = true) (hq : QK P ops (Ls ++ Ls1) o i t v ids1)
  (hL : ∀ p ∈ Ls, p.2 M1) (hL1 : ∀ p ∈ Ls1, p.2 M1)
  (hM : (M1 = M ∧ ids1 = []) ∨ ∃ B, M1 = M ++ [B] ∧ ids1 = [(M.length, B)])
  (h : AD P ops (i :: done) (Ls ++ Ls1) K (putT t o.dst v) M1) : AD P ops done Ls K t M := by
 intro fuel listed σ ids t0 ι N0 a w Q ιs Ms ws d hf' hc
 have hi : i < ops.size := (Array.getElem?_eq_some_iff.1 ho).1
 have hil : ¬ lst listed i := fun hl => hd ((d.dn i).2 (.inl hl))
 have hiσ : i ∉ σ := fun hl => hd ((d.dn i).2 (.inr hl))
 refine h fuel listed (σ ++ [i]) (ids ++ ids1) t0 ι N0 a w Q ιs Ms ws ?_ hf' hc
 have hlen : M.length ≤ M1.length := by rcases hM with ⟨rfl, _⟩ | ⟨B, rfl, _⟩ <;> simp
 have hold : ∀ (b : Nat) (B : Blk), M[b]? = some B → M1[b]? = some B := by
  intro b B hb
  rcases hM with ⟨rfl, _⟩ | ⟨B', rfl, _⟩
  ·exact hb
  ·rw [List.getElem?_append_left (List.getElem?_eq_some_iff.1 hb).1]; exact hb
 have hids : ∀ p ∈ ids, p.1 < M.length := fun p hp => (List.getElem?_eq_some_iff.1 (d.idf p hp).1).1
 have hmem : MRel ι N0 M1 w := by
  rcases hM with ⟨rfl, _⟩ | ⟨B, rfl, _⟩
  ·exact d.rel.mem
  ·exact d.rel.mem.push B
 refine ⟨⟨d.rel.tmps, hmem, d.rel.defers⟩, (d.pends.mono fun _ _ L hm => by simp [hm]).snoc ho hq, d.size, ?_, ?_, ?_, d.cl, ?_, ?_, ?_, ?_, ?_, ?_⟩
 ·intro j
  simp only [List.mem_cons, List.mem_append, d.dn, List.not_mem_nil, or_false]
  constructor
  ·rintro (h | h | h)
   ·exact .inr (.inr h)
   ·exact .inl h
   ·exact .inr (.inl h)
  ·rintro (h | h | h)
   ·exact .inr (.inl h)
   ·exact .inr (.inr h)
   ·exact .inl h
 ·exact List.nodup_append.2 ⟨d.nd, by simp, by intro x hx y hy e; simp at hy; exact hiσ (by rw [← hy, ← e]; exact hx)⟩
 ·intro j hj
  simp at hj
  rcases hj with hj | hj
  ·exact d.un j hj
  ·subst hj; exact hil
 ·refine List.pairwise_append.2 ⟨d.pw, by simp, ?_⟩
  intro x hx y hy
  simp at hy
  subst hy
  exact d.fr x hx y hd
 ·intro x hx j hj
  simp at hx
  rcases hx with hx | hx
  ·exact d.fr x hx j fun h => hj (by simp [h])
  ·subst hx; exact freeOf_spec hf j hj
 ·intro p hp
  simp only [List.mem_append] at hp
  rcases hp with hp | hp
  ·obtain ⟨a1, a2, a3⟩ := d.idf p hp
   exact ⟨hold _ _ a1, a2, a3⟩
  ·rcases hM with ⟨rfl, rfl⟩ | ⟨B, rfl, rfl⟩
   ·simp at hp
   ·simp at hp; subst hp
    exact ⟨by simp, d.rel.mem.dom _ (Nat.le_refl _), d.ext.len⟩
 ·rcases hM with ⟨rfl, rfl⟩ | ⟨B, rfl, rfl⟩
  ·simpa using d.idn
  ·rw [List.map_append]
   refine List.nodup_append.2 ⟨d.idn, by simp, ?_⟩
   intro x hx y hy e
   simp at hy
   obtain ⟨p, hp, rfl⟩ := List.mem_map.1 hx
   have := hids p hp
   omega
 ·intro p hp
  simp only [List.mem_append] at hp
  rcases hp with hp | hp
  ·exact hL p hp
  ·exact hL1 p hp
 ·refine ⟨d.ext.inj, fun b hb hn => ?_, Nat.le_trans d.ext.len hlen, d.ext.below⟩
  obtain ⟨e1, e2⟩ := d.ext.pend b hb hn
  refine ⟨e1, ?_⟩
  rw [← e2]
  have hbl : b < M.length := Nat.lt_of_lt_of_le hb d.ext.len
  rcases hM with ⟨rfl, _⟩ | ⟨B, rfl, _⟩
  ·rfl
  ·rw [List.getElem?_append_left hbl]
theorem AD.skip {i : Nat} {o : Oper} (ho : ops[i]? = some o) (hd : i ∉ done) (hf : freeOf ops done i = true) (hw : wantA ops o t = false) (h : AD P ops (i :: done) Ls K (putT t o.dst undef) M) (hL : ∀ p ∈ Ls, p.2 M) : AD P ops done Ls K t M :=
 AD.takeQ (Ls1 := []) ho hd hf (.inl ⟨hw, rfl, rfl⟩) hL (by simp) (.inl ⟨rfl, rfl⟩) (by simpa using h)
theorem AD.pure {i : Nat} {o : Oper} {v : Value} (ho : ops[i]? = some o) (hd : i ∉ done) (hf : freeOf ops done i = true) (hok : okOpds o = true) (hw : wantA ops o t = true) (hv : PureA P o (ev t) v) (hL : ∀ p ∈ Ls, p.2 M)
  (h : AD P ops (i :: done) Ls K (putT t o.dst v) M) : AD P ops done Ls K t M :=
 AD.takeQ (Ls1 := []) ho hd hf (.inr ⟨hw, hok, .inl ⟨hv, rfl⟩⟩) hL (by simp) (.inl ⟨rfl, rfl⟩) (by simpa using h)
theorem AD.load {i : Nat} {o : Oper} {v : Value} {L : Mem → Prop} (ho : ops[i]? = some o) (hd : i ∉ done) (hf : freeOf ops done i = true) (hok : okOpds o = true) (hw : wantA ops o t = true) (hv : LoadA P o (ev t) L v) (hL : ∀ p ∈ Ls, p.2 M) (hl : L M)
  (h : AD P ops (i :: done) (Ls ++ [(i, L)]) K (putT t o.dst v) M) : AD P ops done Ls K t M :=
 AD.takeQ (Ls1 := [(i, L)]) ho hd hf (.inr ⟨hw, hok, .inr (.inl ⟨L, by simp, hv, rfl⟩)⟩) hL (by simpa using hl) (.inl ⟨rfl, rfl⟩) h
theorem AD.fresh {i : Nat} {o : Oper} {v : Nat → Value} {B : Blk} (ho : ops[i]? = some o) (hd : i ∉ done) (hf : freeOf ops done i = true) (hok : okOpds o = true) (hw : wantA ops o t = true) (hv : FreshA P o (ev t) B v) (hL : ∀ p ∈ Ls, p.2 (M ++ [B]))
  (h : AD P ops (i :: done) Ls K (putT t o.dst (v M.length)) (M ++ [B])) : AD P ops done Ls K t M :=
 AD.takeQ (Ls1 := []) (ids1 := [(M.length, B)]) ho hd hf (.inr ⟨hw, hok, .inr (.inr ⟨B, v, M.length, hv, rfl, rfl⟩)⟩) hL (by simp) (.inr ⟨B, rfl, rfl⟩) (by simpa using h)
theorem AD.eff (hok0 : okOps ops = true) {i : Nat} {o : Oper} (ho : ops[i]? = some o) (hd : i ∉ done) (ha : aloneOf ops done i = true) (hok : okOpds o = true) (hw : wantA ops o t = true)
  (h : AOp P o (ev t) M fun v M' => (∀ p ∈ Ls.filter (fun p => !bef ops p.1 i), p.2 M') ∧ AD P ops (i :: done) (Ls.filter fun p => !bef ops p.1 i) K (putT t o.dst v) M') : AD P ops done Ls K t M := by
 intro fuel listed σ ids t0 ι N0 a w Q ιs Ms ws d hf hc
 refine DInv.run hok0 (Q := Q) ?_ ?_ fuel listed σ ids t0 ι a w d hf
 ·clear d hf fuel listed σ ids t0 ι a w
  intro fuel listed σ ids t0 ι a w d hf j hj hjd
  obtain ⟨hjl, oj, hoj, hall⟩ := (ready_lst d.size).1 hj
  have hji : j = i := by
   refine Classical.byContradiction fun hne => ?_
   have := List.all_eq_true.1 ha j (by simpa using (Array.getElem?_eq_some_iff.1 hoj).1)
   simp only [hoj, Bool.or_eq_true, beq_iff_eq, hne, false_or, List.contains_iff_mem, hjd] at this
   obtain ⟨e, he, hb⟩ := Array.any_eq_true'.1 this
   simp only [Bool.and_eq_true, Bool.not_eq_true', ← Bool.not_eq_true, List.contains_iff_mem] at hb
   exact hb.2 ((d.dn e.on).2 (.inl (hall e he hb.1)))
  subst hji
  rw [ho] at hoj
  obtain rfl := Option.some.inj hoj
  have hap : ∀ x ∈ σ, Apart ops x j := by
   intro x hx ox oy hox hoy
   rw [ho] at hoy
   obtain rfl := Option.some.inj hoy
   rcases d.fr x hx j hjd ox _ hox ho with ⟨e, he, hb, heq⟩ | h
   ·exact absurd (heq ▸ hall e he hb) (d.un x hx)
   ·exact h
  obtain ⟨k1, k2⟩ := d.pends.keeps ho hap
  unfold wpOp
  simp only [ho]
  rw [wantA_eq d.rel.tmps, ← k2, hw, if_pos rfl]
  refine .inl (h ι N0 a w _ Q (ORel.congr k1 (ORel.of d.rel.tmps hok)) d.rel.mem ?_)
  rintro v v' M' ι' w' h1 h2 h3 ⟨h4, h5⟩
  have hjs : j < ops.size := (Array.getElem?_eq_some_iff.1 ho).1
  have hjσ : j ∉ σ := fun hm => hjd ((d.dn j).2 (.inr hm))
  have hbef : ∀ x ∈ σ, bef ops x j = false := by
   intro x hx
   rw [← Bool.not_eq_true]
   intro hb
   refine d.un x hx ((bef_anc hb).listed d.cl ?_)
   intro o' ho' e he hb'
   rw [ho] at ho'
   obtain rfl := Option.some.inj ho'
   exact hall e he hb'
  refine h5 fuel (listed.setIfInBounds j true) σ ids (putT t0 o.dst v) ι' N0 (a.put o.dst v') w' Q ιs Ms ws ?_ ?_ hc
  ·refine ⟨⟨(d.rel.tmps.mono h3.inj).put _ h1, h2, by rw [put_defers]; exact d.rel.defers.keep h3.below⟩, (d.pends.mono fun x hx L hm => ?_).put ho hap v, by simp [d.size], ?_, d.nd, ?_, ?_, d.pw, ?_, ?_, d.idn, h4, d.ext.trans h3⟩
   ·exact List.mem_filter.2 ⟨hm, by simp [hbef x hx]⟩
   ·intro x
    rw [List.mem_cons, d.dn, lst_set]
    constructor
    ·rintro (h | h | h)
     ·exact .inl (.inr ⟨h, by rw [d.size]; exact hjs⟩)
     ·exact .inl (.inl h)
     ·exact .inr h
    ·rintro ((h | ⟨h, _⟩) | h)
     ·exact .inr (.inl h)
     ·exact .inl h
     ·exact .inr (.inr h)
   ·intro x hx
    rw [lst_set]
    rintro (h | ⟨h, _⟩)
    ·exact d.un x hx h
    ·subst h; exact hjσ hx
   ·intro x ox hx hox e he hb
    rw [lst_set] at hx ⊢
    rcases hx with hx | ⟨hx, _⟩
    ·exact .inl (d.cl x ox hx hox e he hb)
    ·subst hx
     rw [ho] at hox
     obtain rfl := Option.some.inj hox
     exact .inl (hall e he hb)
   ·intro x hx y hy
    exact d.fr x hx y fun hm => hy (by simp [hm])
   ·intro p hp
    obtain ⟨b1, b2, b3⟩ := d.idf p hp
    obtain ⟨c1, c2⟩ := h3.pend p.1 (List.getElem?_eq_some_iff.1 b1).1 b2
    exact ⟨c2.trans b1, c1, b3⟩
  ·have := unl_set d.size hjs hjl
   omega
 ·intro listed σ ids t0 ι a w d hall
  exact absurd ((d.dn i).2 (.inl (hall i (Array.getElem?_eq_some_iff.1 ho).1))) hd
theorem AD.fin (hok0 : okOps ops = true) (hd : ((List.range ops.size).all fun i => done.contains i) = true) (h : K t M) : AD P ops done Ls K t M := by
 intro fuel listed σ ids t0 ι N0 a w Q ιs Ms ws d hf hc
 refine DInv.run hok0 (Q := Q) ?_ ?_ fuel listed σ ids t0 ι a w d hf
 ·intro fuel listed σ ids t0 ι a w d hf j hj hjd
  obtain ⟨hjl, oj, hoj, hall⟩ := (ready_lst d.size).1 hj
  have := List.all_eq_true.1 hd j (by simpa using (Array.getElem?_eq_some_iff.1 hoj).1)
  exact absurd (by simpa using this) hjd
 ·intro listed σ ids t0 ι a w d hall
  have hσ : σ = [] := by
   rw [List.eq_nil_iff_forall_not_mem]
   intro x hx
   by_cases hxl : x < ops.size
   ·exact d.un x hx (hall x hxl)
   ·cases hp : d.pends with
    | nil => simp at hx
    | cons _ i o v σ' ids1 ids2 _ ho hq hr =>
     exact absurd hx (by
      intro hx
      have key : ∀ {t0 t : List Value} {σ : List Nat} {ids : List (Nat × Blk)}, Pends P ops Ls t0 σ ids t → ∀ x ∈ σ, x < ops.size := by
       intro t0 t σ ids h
       induction h with
       | nil => intro x hx; simp at hx
       | cons t i o v σ ids ids' t' ho hq h ih =>
        intro x hx
        rcases List.mem_cons.1 hx with rfl | hx
        ·exact (Array.getElem?_eq_some_iff.1 ho).1
        ·exact ih x hx
      exact hxl (key d.pends x hx))
  subst hσ
  cases d.pends with
  | nil => exact hc t M ι a w d.rel d.ext h
theorem AD.drop {Ls' : List (Nat × (Mem → Prop))} (h : AD P ops done Ls K t M) (hs : ∀ p ∈ Ls', p ∈ Ls) (hL : ∀ p ∈ Ls, p.2 M) : AD P ops done Ls' K t M := by
 intro fuel listed σ ids t0 ι N0 a w Q ιs Ms ws d hf hc
 exact h fuel listed σ ids t0 ι N0 a w Q ιs Ms ws ⟨d.rel, d.pends.mono fun _ _ L hm => hs _ hm, d.size, d.dn, d.nd, d.un, d.cl, d.pw, d.fr, d.idf, d.idn, hL, d.ext⟩ hf hc
theorem AW.draw (hm : P.follows .mixedOrders = true) {id : Nat} {Q : Exit → List Value → Mem → Prop} (h : AD P ops [] [] (Q .normal) t M) (hd : calmOps ops.toList = true := by rfl) : AW P (.region id ops true) Q t M := by
 intro ro hr ι N0 a w r
 have key : wpAny P .any ops (fun e a' w' => e = .normal ∧ Post N0 ι M w Q .normal a' w') ops.size (Array.replicate ops.size false) a { w with drawn := w.drawn + 1 } := ?_
 ·refine wpIn_mono (wpIn_region_draw fun t => ?_) ?_ (Q := fun e a' w' => e = .normal ∧ Post N0 ι M w Q .normal a' w')
  ·simp only [Region.schedule, hm, Bool.true_or, if_true]
   exact opsIn_of_ops hd (fun h => by obtain ⟨_, _, e, _⟩ := h; cases e) _ a _ (wpAny_sound ops.size t _ a _ key)
  ·rintro e a' w' ⟨rfl, k⟩
   exact k
 refine h ops.size _ [] [] t ι N0 a _ _ ι M w ?_ ?_ ?_
 ·refine ⟨⟨r.tmps, ⟨fun b B l hb hl => (r.mem.blk b B l hb hl).keep (fun _ _ h => h) fun _ => rfl, r.mem.dom, r.mem.inj, r.mem.base⟩, r.defers.keep (Low.refl N0 w).drew⟩, .nil t, by simp, ?_, by simp, by simp, ?_, by simp, by simp, by simp, by simp, by simp, ?_⟩
  ·intro i
   simp [lst, Array.getElem?_replicate]
   split <;> simp
  ·intro i o hi
   exfalso
   simp [lst, Array.getElem?_replicate] at hi
   split at hi <;> simp at hi
  ·exact ⟨fun _ _ h => h, fun _ _ h => ⟨h, rfl⟩, Nat.le_refl _, (Low.refl _ _).drew⟩
 ·unfold unl
  exact Nat.le_trans (List.length_filter_le _ _) (by simp)
 ·intro t' M' ι' a' w' r' x' k'
  exact ⟨rfl, t', M', ι', r', x', k'⟩
end
def isSl : Value → Bool
 | .slice _ _ _ => true
 | _ => false
def sln : Value → Nat
 | .slice _ n _ => n
 | _ => 0
def scp : Value → Nat
 | .slice _ _ c => c
 | _ => 0
def sbk : Value → Nat
 | .slice (some a) _ _ => a.block
 | _ => 0
def sof : Value → Nat
 | .slice (some a) _ _ => a.off
 | _ => 0
def capLb (c : Nat) : Nat := if c < capLow then c else c - capLow
def capSub (c l : Nat) : Nat := if c < capLow then c - l else capLow + (c - capLow - l)
def subsl (v : Value) (s l h c : Nat) : Value := match v with
 | .slice (some a) _ _ => .slice (some ⟨a.block, a.off + l * s, none⟩) (h - l) c
 | v => v
def tsz (P : Program) (t : TypeId) : Option Nat := (P.info? t).map (·.size)
def tzero (P : Program) (t : TypeId) : Option (List Value) := (P.info? t).bind fun i => i.zero.bind fun z => if z.cells.toList.all flat = true then some z.cells.toList else none
def cl : Value → List Value
 | .agg cs => cs.toList
 | v => [v]
theorem cl_eq (v : Value) : v.cells.toList = cl v := by cases v <;> rfl
def bits (k : IntKind) (r : BitVec k.bits) : Value := .int k (k.wrap r.toNat)
def abin (op : BinOp) (k : IntKind) (a b : Int) : Option Value := match op with
 | .add => some (.int k (k.wrap (a + b)))
 | .sub => some (.int k (k.wrap (a - b)))
 | .mul => some (.int k (k.wrap (a * b)))
 | .quo => if b ≠ 0 then some (.int k (k.wrap (a.tdiv b))) else none
 | .rem => if b ≠ 0 then some (.int k (a.tmod b)) else none
 | .and => some (bits k (BitVec.ofInt k.bits a &&& BitVec.ofInt k.bits b))
 | .or => some (bits k (BitVec.ofInt k.bits a ||| BitVec.ofInt k.bits b))
 | .xor => some (bits k (BitVec.ofInt k.bits a ^^^ BitVec.ofInt k.bits b))
 | .andNot => some (bits k (BitVec.ofInt k.bits a &&& ~~~ BitVec.ofInt k.bits b))
 | .eql => some (.bool (decide (a = b)))
 | .neq => some (.bool (!decide (a = b)))
 | .lss => some (.bool (decide (a < b)))
 | .leq => some (.bool (decide (a ≤ b)))
 | .gtr => some (.bool (decide (a > b)))
 | .geq => some (.bool (decide (a ≥ b)))
 | .shl | .shr => none
def ashift (op : BinOp) (k : IntKind) (a b : Int) : Option Value := match op with
 | .shl => if 0 ≤ b then some (.int k (k.wrap (a * 2 ^ (min b.toNat k.bits)))) else none
 | .shr => if 0 ≤ b then some (.int k (a.fdiv (2 ^ (min b.toNat k.bits)))) else none
 | _ => none
def isShift : BinOp → Bool
 | .shl | .shr => true
 | _ => false
def abin2 (P : Program) (op : BinOp) (t : TypeId) (x y : Value) : Option Value := match isShift op, x, y with
 | true, .int k a, .int _ b => ashift op k a b
 | false, .int k a, .int k' b => if k = k' then abin op k a b else none
 | false, .bool a, .bool b => match op, P.underlying t with
  | .eql, some .bool => some (.bool (a == b))
  | .neq, some .bool => some (.bool (!(a == b)))
  | _, _ => none
 | _, _, _ => none
def aun (op : UnOp) (x : Value) : Option Value := match op, x with
 | .not, .bool b => some (.bool !b)
 | .neg, .int k n => some (.int k (k.wrap (0 - n)))
 | .xor, .int k n => some (bits k (BitVec.ofInt k.bits (if k.signed then -1 else k.max) ^^^ BitVec.ofInt k.bits n))
 | _, _ => none
def aindex (P : Program) (t : TypeId) (x i : Value) : Option Value := match P.underlying t, i with
 | some (.slice e), .int _ n => if isSl x = true ∧ 0 ≤ n ∧ n < sln x then (tsz P e).map fun s => .pointer (some ⟨sbk x, sof x + n.toNat * s, none⟩) else none
 | some (.array len e), .int _ n => match x with
  | .pointer (some a) => if 0 ≤ n ∧ n < len then (tsz P e).map fun s => .pointer (some ⟨a.block, a.off + n.toNat * s, none⟩) else none
  | _ => none
 | _, _ => none
def afield (P : Program) (t : TypeId) (x : Value) (f : Nat) : Option Value := match P.underlying t, x with
 | some (.struct fs), .pointer (some a) => match fs[f]? with
  | some fd => match tsz P fd.type with
   | some (_ + 1) => some (.pointer (some ⟨a.block, a.off + fd.offset, none⟩))
   | _ => none
  | none => none
 | _, _ => none
def apart1 (P : Program) (t : TypeId) (cs : List Value) (off : Nat) : Option Value := match P.underlying t with
 | some (.struct _) | some (.array _ _) => (tsz P t).map fun s => .agg ⟨(cs.drop off).take s⟩
 | some _ => cs[off]?
 | none => none
def afieldv (P : Program) (t : TypeId) (x : Value) (f : Nat) : Option Value := match P.underlying t, x with
 | some (.struct fs), .agg cs => match fs[f]? with
  | some fd => apart1 P fd.type cs.toList fd.offset
  | none => none
 | _, _ => none
def aindexv (P : Program) (t : TypeId) (x i : Value) : Option Value := match P.underlying t, x, i with
 | some (.array len e), .agg cs, .int _ n => if 0 ≤ n ∧ n < len then (tsz P e).bind fun s => apart1 P e cs.toList (n.toNat * s) else none
 | some .string, .string s, .int _ n => if 0 ≤ n then match s[n.toNat]? with
  | some b => some (.int .u8 b.toNat)
  | none => none
  else none
 | _, _, _ => none
def natOf : Option Value → Nat → Option Nat
 | none, d => some d
 | some (.int _ n), _ => if 0 ≤ n then some n.toNat else none
 | some _, _ => none
def astrcut (P : Program) (t : TypeId) (x : Value) (lo hi : Option Value) : Option Value := match P.underlying t, x with
 | some .string, .string s => (natOf lo 0).bind fun l => (natOf hi s.size).bind fun h => if l ≤ h ∧ h ≤ s.size then some (.string (s.extract l h)) else none
 | _, _ => none
def aslice (x : Value) (s : Nat) (lo hi mx : Option Value) : Option Value := if isSl x = true then
  (natOf lo 0).bind fun l => (natOf hi (sln x)).bind fun h =>
   match mx with
   | none => if l ≤ h ∧ (hi = none ∨ h ≤ capLb (scp x)) then some (subsl x s l h (capSub (scp x) l)) else none
   | some m => if hi = none then none else (natOf (some m) 0).bind fun m => if l ≤ h ∧ h ≤ m ∧ m ≤ capLb (scp x) ∧ m < capLow then some (subsl x s l h (m - l)) else none
 else none
def fillL (place : Nat → Option (Nat × Nat)) : List Value → List (Nat × Value) → Option (List Value)
 | cells, [] => some cells
 | cells, (i, v) :: rest => match place i with
  | some (off, size) => if (cl v).length = size ∧ off + size ≤ cells.length then fillL place (cells.take off ++ cl v ++ cells.drop (off + size)) rest else none
  | none => none
def placesOf (P : Program) (fs : List Field) : Option (List (Nat × Nat)) := match fs with
 | [] => some []
 | f :: fs => match tsz P f.type, placesOf P fs with
  | some s, some l => some ((f.offset, s) :: l)
  | _, _ => none
def abuild (P : Program) (t : TypeId) (parts : List (Nat × Value)) : Option Value := match P.underlying t with
 | some (.struct fs) => (tzero P t).bind fun z => (placesOf P fs.toList).bind fun pl => (fillL (pl[·]?) z parts).map fun cs => .agg ⟨cs⟩
 | some (.array _ e) => (tzero P t).bind fun z => (tsz P e).bind fun s => (fillL (fun i => some (i * s, s)) z parts).map fun cs => .agg ⟨cs⟩
 | _ => none
def alen (P : Program) (t : TypeId) (x : Value) : Option Value := match P.underlying t, x with
 | some .string, .string s => some (.int .i64 s.size)
 | some (.slice _), v => if isSl v = true then some (.int .i64 (sln v)) else none
 | _, _ => none
def amin2 (x y : Value) : Option Value := match x, y with
 | .int k a, .int _ b => some (.int k (if b < a then b else a))
 | _, _ => none
def amax2 (x y : Value) : Option Value := match x, y with
 | .int k a, .int _ b => some (.int k (if b > a then b else a))
 | _, _ => none
def foldO (f : Value → Value → Option Value) : Value → List Value → Option Value
 | x, [] => some x
 | x, y :: l => (f x y).bind fun z => foldO f z l
def pickV : Value → Value → Value → Option Value
 | .bool b, x, y => some (if b = true then x else y)
 | _, _, _ => none
def aconvV : Option TypeDesc → Option TypeDesc → Value → Option Value
 | some _, some (.int k), .int _ n => some (.int k (k.wrap n))
 | _, _, _ => none
def aextr (x : Value) (i : Nat) : Option Value := match x with
 | .tuple vs => vs.toList[i]?
 | _ => none
def anil : Value → Option Value
 | .pointer (some a) => some (.pointer (some a))
 | _ => none
def apure (P : Program) (ρ : Operand → Value) : Op → Option Value
 | .move x | .assign x => some (ρ x)
 | .pick c a b => pickV (ρ c) (ρ a) (ρ b)
 | .binOp op t x y _ => abin2 P op t (ρ x) (ρ y)
 | .unOp op _ x => aun op (ρ x)
 | .convert src dst x => aconvV (P.underlying src) (P.underlying dst) (ρ x)
 | .extract t i => aextr (ρ t) i
 | .nilCheck x => anil (ρ x)
 | .fieldAddr t x f => afield P t (ρ x) f
 | .field t x f => afieldv P t (ρ x) f
 | .indexAddr t x i => aindex P t (ρ x) (ρ i)
 | .index t x i => aindexv P t (ρ x) (ρ i)
 | .slice t x lo hi none => astrcut P t (ρ x) (lo.map ρ) (hi.map ρ)
 | .build t parts => abuild P t (parts.toList.map fun p => (p.1, ρ p.2))
 | .makeFunc (.func f) first captured => some (.func (.func f) ⟨first.toList.map ρ⟩ ⟨captured.toList.map ρ⟩)
 | .call { callee := .builtin .len, args, argTypes } => match args.toList, argTypes.toList with
  | [x], [t] => alen P t (ρ x)
  | _, _ => none
 | .call { callee := .builtin .min, args, .. } => match args.toList with
  | x :: l => foldO amin2 (ρ x) (l.map ρ)
  | _ => none
 | .call { callee := .builtin .max, args, .. } => match args.toList with
  | x :: l => foldO amax2 (ρ x) (l.map ρ)
  | _ => none
 | _ => none
section
variable {P : Program} {o : Oper} {ρ : Operand → Value} {v : Value}
theorem run_info {t : TypeId} {i : TypeInfo} (h : P.info? t = some i) (w : World) : (typeInfo t).run P w = .ok i w := by simp [typeInfo, h]
theorem run_size {t : TypeId} {s : Nat} (h : tsz P t = some s) (w : World) : (sizeOf t).run P w = .ok s w := by
 unfold tsz at h
 obtain ⟨i, hi, rfl⟩ := Option.map_eq_some_iff.1 h
 simp [sizeOf, run_info hi]
theorem run_zero {t : TypeId} {l : List Value} (h : tzero P t = some l) (w : World) : ∃ z : Value, z.cells.toList = l ∧ (zeroValue t).run P w = .ok z w := by
 unfold tzero at h
 obtain ⟨i, hi, h⟩ := Option.bind_eq_some_iff.1 h
 obtain ⟨z, hz, h⟩ := Option.bind_eq_some_iff.1 h
 split at h <;> cases h
 exact ⟨z, rfl, by simp [zeroValue, run_info hi, hz]⟩
theorem zero_flat {t : TypeId} {l : List Value} (h : tzero P t = some l) : l.all flat = true := by
 unfold tzero at h
 obtain ⟨i, hi, h⟩ := Option.bind_eq_some_iff.1 h
 obtain ⟨z, hz, h⟩ := Option.bind_eq_some_iff.1 h
 split at h <;> cases h
 assumption
theorem VRel.int_inv {ι : Inj} {k : IntKind} {n : Int} {v' : Value} (h : VRel ι (.int k n) v') : v' = .int k n := by cases h; rfl
theorem VRel.bool_inv {ι : Inj} {b : Bool} {v' : Value} (h : VRel ι (.bool b) v') : v' = .bool b := by cases h; rfl
theorem VRel.string_inv {ι : Inj} {s : ByteArray} {v' : Value} (h : VRel ι (.string s) v') : v' = .string s := by cases h; rfl
theorem VRel.slice_inv {ι : Inj} {x v' : Value} (h : VRel ι x v') (hs : isSl x = true) : (x = .slice none 0 0 ∧ v' = .slice none 0 0) ∨
  ∃ b off len cap cap' l a', x = .slice (some ⟨b, off, none⟩) len cap ∧ v' = .slice (some a') len cap' ∧ ι b = some l ∧ len ≤ cap' ∧ capOk cap cap' ∧ (cap' = 0 ∨ (a' = ⟨l.g, l.base + off, none⟩ ∧ l.base + off + cap' * l.sz ≤ l.lim)) := by
 cases h <;> first | (simp [isSl] at hs; done) | exact .inl ⟨rfl, rfl⟩ | skip
 rename_i b off len cap cap' l a' h hl hc ha
 exact .inr ⟨b, off, len, cap, cap', l, a', rfl, rfl, h, hl, hc, ha⟩
theorem addr_add (b off n : Nat) : (⟨b, off, none⟩ : Addr).add n = ⟨b, off + n, none⟩ := by
 unfold Addr.add
 by_cases h : n = 0
 ·subst h; simp
 ·simp [h]
theorem pure_move {x : Operand} (ho : o.op = .move x ∨ o.op = .assign x) : PureA P o ρ (ρ x) := by
 intro ι ρ' hr
 refine ⟨ρ' x, hr x ?_, fun w => ?_⟩
 ·rcases ho with ho | ho <;> rw [ho] <;> simp [Op.operands]
 ·rcases ho with ho | ho <;> simp [execOp, ho]
theorem pure_pick {c a b : Operand} (ho : o.op = .pick c a b) {t : Bool} (hc : ρ c = .bool t) : PureA P o ρ (if t = true then ρ a else ρ b) := by
 intro ι ρ' hr
 have h1 := hr c (by rw [ho]; simp [Op.operands])
 rw [hc] at h1
 have h1' := h1.bool_inv
 refine ⟨if t = true then ρ' a else ρ' b, ?_, fun w => by simp [execOp, ho, h1', asBool]⟩
 split
 ·exact hr a (by rw [ho]; simp [Op.operands])
 ·exact hr b (by rw [ho]; simp [Op.operands])
theorem pure_flat (ho : ∀ cs b, o.op ≠ .select cs b) (hp : ∀ x ∈ o.op.operands, flat (ρ x) = true) (hv : flat v = true) (hr : ∀ w, (execOp ρ o).run P w = .ok (.value v) w) : PureA P o ρ v := by
 intro ι ρ' h
 have he : execOp ρ' o = execOp ρ o := execOp_congr o ho fun x hx => (h x hx).flat_eq (hp x hx)
 exact ⟨v, VRel.of_flat hv, fun w => by rw [he]; exact hr w⟩
theorem run_eq_bool {t : TypeId} (hu : P.underlying t = some .bool) (a b : Bool) (w : World) : (Op.equal t (.bool a) (.bool b)).run P w = .ok (a == b) w := by
 show (Op.equalIn (9999 + 1) t (.bool a) (.bool b)).run P w = _
 unfold Op.equalIn
 simp [run_underlying hu]
theorem pure_bin {op : BinOp} {t yt : TypeId} {x y : Operand} (ho : o.op = .binOp op t x y yt) (hv : abin2 P op t (ρ x) (ρ y) = some v) : PureA P o ρ v := by
 have hx : flat (ρ x) = true ∧ flat (ρ y) = true ∧ flat v = true := by
  unfold abin2 at hv
  split at hv
  ·rename_i k a k' b _ h1 h2
   rw [h1, h2]
   refine ⟨rfl, rfl, ?_⟩
   unfold ashift at hv
   split at hv <;> first | (split at hv <;> first | (obtain rfl := Option.some.inj hv; rfl) | cases hv) | cases hv
  ·rename_i k a k' b _ h1 h2
   rw [h1, h2]
   refine ⟨rfl, rfl, ?_⟩
   split at hv
   ·unfold abin at hv
    split at hv <;> first | (obtain rfl := Option.some.inj hv; rfl) | (split at hv <;> first | (obtain rfl := Option.some.inj hv; rfl) | cases hv) | cases hv
   ·cases hv
  ·rename_i a b _ h1 h2
   rw [h1, h2]
   refine ⟨rfl, rfl, ?_⟩
   split at hv <;> first | (obtain rfl := Option.some.inj hv; rfl) | cases hv
  ·cases hv
 refine pure_flat (fun cs b h => by rw [ho] at h; cases h) (fun z hz => ?_) hx.2.2 fun w => ?_
 ·rw [ho] at hz
  simp [Op.operands] at hz
  rcases hz with rfl | rfl
  ·exact hx.1
  ·exact hx.2.1
 ·unfold abin2 at hv
  split at hv
  ·rename_i k a k' b h0 h1 h2
   cases op <;> first | (simp [isShift] at h0; done) | skip
   all_goals
    unfold ashift at hv
    simp only at hv
    split at hv <;> cases hv
    rename_i hb
    have hb' : ¬ b < 0 := by omega
    simp [execOp, ho, h1, h2, binOp, eqGuard, Op.shift, hb']
  ·rename_i k a k' b h0 h1 h2
   split at hv <;> first | cases hv | skip
   rename_i hk
   subst hk
   cases op <;> first | (simp [isShift] at h0; done) | skip
   all_goals
    unfold abin at hv
    simp only at hv
    first
    | (obtain rfl := Option.some.inj hv; simp [execOp, ho, h1, h2, binOp, eqGuard, Op.intArith, Op.intDiv, Op.intBits, Op.intCmp, bits]; done)
    | (split at hv <;> cases hv; rename_i hb; simp [execOp, ho, h1, h2, binOp, eqGuard, Op.intDiv, hb]; done)
    | (obtain rfl := Option.some.inj hv; simp [execOp, ho, h1, h2, binOp, eqGuard, Op.intArith, Op.intDiv, Op.intBits, Op.intCmp, bits]; by_cases h : a = b <;> simp [h])
  ·rename_i a b h0 h1 h2
   split at hv <;> cases hv
   all_goals
    rename_i hu
    simp [execOp, ho, h1, h2, binOp, eqGuard, run_eq_bool hu]
  ·cases hv
end
end Go.Proofs.Ytbdejnnbpdgjlaa.Ax
