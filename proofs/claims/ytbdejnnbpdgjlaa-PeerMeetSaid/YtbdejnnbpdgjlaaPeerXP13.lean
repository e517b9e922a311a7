/- Contracts of functions over the abstract machine. No conditions: lemmas alone. -/
import Derived.Test.YtbdejnnbpdgjlaaPeerXLibD
import Derived.Test.YtbdejnnbpdgjlaaPeerXP0
import Derived.Test.YtbdejnnbpdgjlaaPeerXP12
import Derived.Test.YtbdejnnbpdgjlaaPeerXP3
namespace Go.Proofs.Ytbdejnnbpdgjlaa.Ax
open Go Go.RowKit
set_option linter.unusedVariables false
set_option linter.unusedSimpArgs false
set_option maxRecDepth 100000
set_option maxHeartbeats 20000000
section
variable {P : Program} {o : Oper} {ρ : Operand → Value} {M : Mem} {K : Value → Mem → Prop}
theorem fresh_mk {t e : TypeId} {x y : Operand} (ho : o.op = .makeSlice t x y) {s n l bt : Nat} {k k' : IntKind} {z : List Value} (hu : P.underlying t = some (.slice e)) (hs : tsz P e = some s) (h0 : 0 < s) (hz : tzero P e = some z) (hzl : z.length = s) (hb : tby P e = some bt)
  (hx : ρ x = .int k l) (hy : ρ y = .int k' n) (hl : l ≤ n) (hn : n * bt ≤ 140737488355328) (hn2 : n ≤ 140737488355328) : FreshA P o ρ (.row true s (zerosOf z n)) fun b => .slice (some ⟨b, 0, none⟩) l n := by
 intro ι N0 ρ' b w hN hb' hr
 have hrx := hr x (by rw [ho]; simp [Op.operands])
 have hry := hr y (by rw [ho]; simp [Op.operands])
 rw [hx] at hrx
 rw [hy] at hry
 generalize hx' : ρ' x = x' at hrx
 generalize hy' : ρ' y = y' at hry
 cases hrx
 cases hry
 obtain ⟨i, hi, rfl⟩ : ∃ i, P.info? e = some i ∧ i.bytes = bt := by
  unfold tby at hb
  obtain ⟨i, hi, h⟩ := Option.map_eq_some_iff.1 hb
  exact ⟨i, hi, h⟩
 obtain ⟨zv, hz1, hz2⟩ := run_zero hz w
 have hzs : zv.cells.size = s := by rw [← hzl, ← hz1]; simp
 have hsz : i.size = s := by unfold tsz at hs; rw [hi] at hs; simpa using hs
 have wl : IntKind.i64.wrap (l : Int) = l := by rw [IntKind.wrap_i64]; omega
 have wn : IntKind.i64.wrap (n : Int) = n := by rw [IntKind.wrap_i64]; omega
 have hbn : (i.bytes : Int) * n ≤ 140737488355328 := by
  have h : ((n * i.bytes : Nat) : Int) ≤ 140737488355328 := by omega
  rw [Int.natCast_mul] at h
  rw [Int.mul_comm]; exact h
 have n1 : ¬ (n : Int) < 0 := by omega
 have n2 : ¬ (281474976710656 : Int) < (i.bytes : Int) * n := by omega
 have n3 : ¬ (l : Int) < 0 := by omega
 have n4 : ¬ (n : Int) < l := by omega
 obtain ⟨cs', hrun, hcs⟩ : ∃ cs' : Array Value, (execOp ρ' o).run P w = .ok (.value (.slice (some ⟨w.heap.size, 0, none⟩) l n)) (w.alloc (.cells cs' e)) ∧ cs'.toList = zerosOf z n := by
  by_cases h0n : n * s = 0
  ·have hn0 : n = 0 := by
    rcases Nat.mul_eq_zero.1 h0n with h | h
    ·exact h
    ·omega
   refine ⟨#[], ?_, by rw [hn0]; rfl⟩
   obtain rfl : l = 0 := by omega
   subst hn0
   have w0 : IntKind.i64.wrap 0 = 0 := by decide
   simp [execOp, ho, hx', hy', Instr.makeSlice, run_underlying hu, asInt, asIntOf, run_info hi, run_size hs, w0, newRow, run_newObj]
   rw [show Array.map (fun _ => (default : Value)) (Array.range 0) = #[] from by apply Array.ext'; simp]
  ·refine ⟨(Array.range (n * s)).map fun i => zv.cells[i % zv.cells.size]!, ?_, ?_⟩
   ·simp [execOp, ho, hx', hy', Instr.makeSlice, run_underlying hu, asInt, asIntOf, run_info hi, run_size hs, wl, wn, n1, n2, n3, n4, h0n, hz2, newRow, run_newObj]
   ·have h1 : n * s % zv.cells.size = 0 := by rw [hzs]; simp
    rw [zeros_eq h1 (by omega), hzs, hz1, Nat.mul_div_cancel _ h0]
 have hflat := zerosOf_flat (zero_flat hz) n
 have hlen : cs'.size = n * s := by
  have : cs'.toList.length = n * s := by rw [hcs, zerosOf_length, hzl]
  simpa using this
 let lc : Loc := ⟨w.heap.size, 0, cs'.size, s⟩
 have hub : (ι.upd b lc) b = some lc := by simp [Inj.upd]
 refine ⟨.cells cs' e, .slice (some ⟨w.heap.size, 0, none⟩) l n, lc, hrun, rfl, ?_, ?_⟩
 ·refine .slice b 0 l n n lc _ hub hl (.inl rfl) (.inr ⟨rfl, ?_⟩)
  simp [lc, hlen]
 ·refine ⟨hb', rfl, cs', e, alloc_get _ _, by simp [lc, hlen, zerosOf_length, hzl], by simp [lc], ?_⟩
  intro j v hj
  obtain ⟨v', h3, h4⟩ := (LRel.of_flat (ι := ι) hflat).get hj
  refine ⟨v', ?_, h4.mono (Inj.upd_le (l := lc) hN)⟩
  rw [← hcs] at h3
  simpa [lc] using h3
theorem AOp.copy {t t' e e' : TypeId} {x y : Operand} (ho : o.op = .call { callee := .builtin .copy, args := #[x, y], argTypes := #[t, t'] }) (ht : P.underlying t = some (.slice e)) (ht' : P.underlying t' = some (.slice e')) (hs : tsz P e = some 1)
  {b off n c : Nat} (hx : ρ x = .slice (some ⟨b, off, none⟩) n c) {cc ds : List Value} (hB : M[b]? = some (.row true 1 cc)) (hy : Sl M (ρ y) 1 ds) (hn : ds.length ≤ n) (h0 : 0 < ds.length) (hle : off + ds.length ≤ cc.length)
  (hk : K (.int .i64 ds.length) (M.set b (.row true 1 (spl cc off ds)))) : AOp P o ρ M K := by
 intro ι N0 a w KC QC hor hm hc
 have hrx := hor x (by rw [ho]; simp [Op.operands, Call.operands])
 have hry := hor y (by rw [ho]; simp [Op.operands, Call.operands])
 obtain ⟨ds', hds, hsrc⟩ := hy.src hm hry ht'
 have hdl := hy.len
 rw [hx] at hrx
 generalize hz : a.eval x = z at hrx
 cases hrx with
 | slice _ _ _ _ cap' l a' hbl hle' hcap ha =>
  obtain ⟨rfl, hlim⟩ := ha.resolve_left (by omega)
  have hne : ds ≠ [] := List.length_pos_iff.1 h0
  obtain ⟨cc', e2, hg, hle2, hB'⟩ := (hm.blk b _ l hB hbl).stored rfl hne hle hds
  have hst := run_storeCells_at P l.g (l.base + off) e2 ds' 0 cc' w hg (by simpa using hle2) hsrc.one
  simp only [Nat.add_zero] at hst
  have hl2 : ds'.length = ds.length := hds.length.symm
  have hsl : sln (ρ y) = ds.length := by omega
  have hln := hsrc.len
  have hcl := hsrc.cells
  rw [hsl] at hln hcl
  have hmin : Nat.min ds.length n = ds.length := Nat.min_eq_left hn
  unfold Oper.wp
  have hrun : (execOp a.eval o).run P w = .ok (.value (.int .i64 ds.length)) (w.setRow l.g (cc'.toList.take (l.base + off) ++ ds' ++ cc'.toList.drop (l.base + off + ds'.length)).toArray) := by
   simp [execOp, ho, hz, resolve, invoke, builtin, Builtin.copy_, run_underlying ht, run_size hs, hln, hmin, hcl, hst, goInt]
  rw [hrun]
  have hw : ∀ g, g ≠ l.g → (w.setRow l.g (cc'.toList.take (l.base + off) ++ ds' ++ cc'.toList.drop (l.base + off + ds'.length)).toArray).heap[g]? = w.heap[g]? := fun g hg => setRow_other w l.g g _ hg
  exact hc _ _ _ ι _ (VRel.int _ _) (hm.turn hB rfl hbl hw (by simp) hB') (Ext.turn hm hB rfl hbl hw (by simp) rfl rfl rfl) hk
theorem digits_ints : ∀ (n t : Nat) (acc : Array Value) (xs : List Int), acc.toList = ints .u8 xs → ∃ ys : List Int, (Extern.BytealgMakeNoZero.digits n t acc).toList = ints .u8 (xs ++ ys) ∧ ys.length = n
 | 0, _, _, xs, h => ⟨[], by rw [List.append_nil]; exact h, rfl⟩
 | n + 1, t, acc, xs, h => by
  obtain ⟨ys, h1, h2⟩ := digits_ints n (t / 256) (acc.push (.int .u8 (Int.ofNat (t % 256)))) (xs ++ [Int.ofNat (t % 256)]) (by simp [h, ints])
  exact ⟨Int.ofNat (t % 256) :: ys, by rw [Extern.BytealgMakeNoZero.digits, h1]; simp, by simp [h2]⟩
theorem AOp.noZero {g x : Operand} {tys : Array TypeId} {t e : TypeId} (ho : o.op = .call { callee := .value g, args := #[x], argTypes := tys }) {f : FuncId} (hg : ρ g = .func (.func f) #[] #[]) {fn : Func} (hf : P.funcs[f]? = some fn) (hb : fn.body = none) (hnm : (fn.name == "runtime.NumGoroutine") = false)
  (h1 : Extern.findNext fn = none) (h2 : Extern.find fn = some (Extern.BytealgMakeNoZero.makeNoZero #[3] #[t])) (ht : P.underlying t = some (.slice e)) (hs : tsz P e = some 1) {n : Nat} (hx : ρ x = .int .i64 n) (h0 : 0 < n) (hn : n ≤ 1000000)
  (hk : ∀ xs : List Int, xs.length = n → K (.slice (some ⟨M.length, 0, none⟩) n (capLow + n)) (M ++ [.row true 1 (ints .u8 xs)])) : AOp P o ρ M K := by
 intro ι N0 a w KC QC hor hm hc
 have hrg := hor g (by rw [ho]; simp [Op.operands, Call.operands])
 have hrx := hor x (by rw [ho]; simp [Op.operands, Call.operands])
 rw [hg] at hrg
 rw [hx] at hrx
 generalize hz : a.eval g = z at hrg
 generalize hx' : a.eval x = x' at hrx
 cases hrx
 cases hrg with
 | func _ _ _ fs' _ cs' k1 k2 =>
  cases k1
  cases k2
  have hdef : Extern.BytealgMakeNoZero.makeNoZero #[3] #[t] #[.int .i64 n] =
    (do
     let .slice elem ← underlying t | stuck "bytealg.MakeNoZero: slice type expected"
     if (n : Int) < 0 || (n : Int) > 2 ^ 48 then runtimePanic (.error "makeslice: len out of range")
     let cap ← choose (.appendCap (n : Int).toNat 0 elem)
     askRoom cap
     let bytes ← choose (.extern "internal/bytealg.MakeNoZero.bytes" 0)
     let a ← newRow elem (Extern.BytealgMakeNoZero.digits cap bytes #[])
     Pure.pure (Value.slice (some a) (n : Int).toNat cap)) := rfl
  obtain ⟨gc, hgc⟩ : ∃ gc, gc = grownCap w n 0 e := ⟨_, rfl⟩
  have hge : n ≤ gc := by rw [hgc]; simpa using grownCap_ge w n 0 e
  obtain ⟨by', hby⟩ : ∃ by', by' = (Question.extern "internal/bytealg.MakeNoZero.bytes" 0).cut (w.tape (w.drawn + 1) (.extern "internal/bytealg.MakeNoZero.bytes" 0)) := ⟨_, rfl⟩
  obtain ⟨ys, hy1, hy2⟩ := digits_ints gc by' #[] [] rfl
  rw [List.nil_append] at hy1
  have hsz : (Extern.BytealgMakeNoZero.digits gc by' #[]).size = gc := by rw [← Array.length_toList, hy1, ints_length, hy2]
  have hrun1 : (Extern.BytealgMakeNoZero.makeNoZero #[3] #[t] #[.int .i64 n]).run P w = .ok (.slice (some ⟨w.heap.size, 0, none⟩) n gc) (w.drew.drew.alloc (.cells (Extern.BytealgMakeNoZero.digits gc by' #[]) e)) := by
   have q1 : ¬ (n : Int) < 0 := by omega
   have q2 : ¬ (281474976710656 : Int) < (n : Int) := by omega
   rw [hdef, hgc, hby]
   simp [run_underlying ht, q1, q2, Question.forced, newRow, grownCap]
  have hrun : (execOp a.eval o).run P w = .ok (.value (.slice (some ⟨w.heap.size, 0, none⟩) n gc)) (w.drew.drew.alloc (.cells (Extern.BytealgMakeNoZero.digits gc by' #[]) e)) := by
   simp [execOp, ho, resolve, hz, hx', Deferred.ofValue, invoke, callFunc, run_program, hf, hb, show ¬ fn.name = "runtime.NumGoroutine" from by simpa using hnm, h1, h2, hrun1]
  unfold Oper.wp
  rw [hrun]
  let l : Loc := ⟨w.heap.size, 0, gc, 1⟩
  have hnn : ι M.length = none := hm.dom _ (Nat.le_refl _)
  have hle := Inj.upd_le (l := l) hnn
  have hyt : (ys.take n).length = n := by rw [List.length_take]; omega
  have hX' : MRel ι N0 M w.drew.drew := ⟨fun b B l hb hl => (hm.blk b B l hb hl).keep (fun _ _ h => h) fun _ => rfl, hm.dom, hm.inj, hm.base⟩
  have hM : MRel (ι.upd M.length l) N0 (M ++ [.row true 1 (ints .u8 (ys.take n))]) (w.drew.drew.alloc (.cells (Extern.BytealgMakeNoZero.digits gc by' #[]) e)) := by
   refine (hX'.push (.row true 1 (ints .u8 (ys.take n)))).lay (b := M.length) (B := .row true 1 (ints .u8 (ys.take n))) (by simp) hnn rfl ?_
   refine ⟨hX'.base, rfl, _, e, alloc_get w.drew.drew _, ?_, Nat.le_of_eq hsz.symm, ?_⟩
   ·show 0 + (ints .u8 (ys.take n)).length ≤ _
    rw [ints_length, hyt]; simp only [l]; omega
   ·intro j u hj
    refine ⟨u, ?_, ?_⟩
    ·have : (ints .u8 ys)[j]? = some u := by
      rw [← ints_take, List.getElem?_take] at hj
      split at hj
      ·exact hj
      ·cases hj
     rw [← hy1] at this
     simpa [l] using this
    ·have : u ∈ ints .u8 (ys.take n) := List.mem_of_getElem? hj
     obtain ⟨i, _, rfl⟩ := List.mem_map.1 this
     exact .int _ _
  refine hc (.slice (some ⟨M.length, 0, none⟩) n (capLow + n)) _ (M ++ [.row true 1 (ints .u8 (ys.take n))]) (ι.upd M.length l) _ ?_ hM ⟨Inj.upd_le hnn, fun x hx hn' => ⟨by unfold Inj.upd; rw [if_neg (by omega)]; exact hn', List.getElem?_append_left hx⟩, by simp, (((Low.refl _ _).drew).drew).alloc hm.base _⟩ (hk _ hyt)
  refine VRel.slice M.length 0 n _ gc l _ (by simp [Inj.upd]) hge (.inr ⟨by omega, by omega⟩) (.inr ⟨rfl, ?_⟩)
  simp [l]
end
def mkK (P : Program) (ty : TypeId) (x y : Value) (C : Nat → Nat → Nat → List Value → Prop) : Prop := ∃ e s z bt k k' l n, P.underlying ty = some (.slice e) ∧ tsz P e = some s ∧ 0 < s ∧ tzero P e = some z ∧ z.length = s ∧ tby P e = some bt ∧
 x = .int k ((l : Nat) : Int) ∧ y = .int k' ((n : Nat) : Int) ∧ l ≤ n ∧ n * bt ≤ 140737488355328 ∧ n ≤ 140737488355328 ∧ C l n s (zerosOf z n)
theorem zerosOf_one (v : Value) (n : Nat) : zerosOf [v] n = List.replicate n v := by
 unfold zerosOf
 induction n with
 | zero => rfl
 | succ n ih => simp [List.replicate_succ, ih]
theorem mkK.ints {P : Program} {ty e bt : Nat} {k k1 k2 : IntKind} {C : Nat → Nat → Nat → List Value → Prop} {l n : Nat} (hu : P.underlying ty = some (.slice e)) (hs : tsz P e = some 1) (hz : tzero P e = some [.int k 0]) (hb : tby P e = some bt)
  (hl : l ≤ n) (hn : n * bt ≤ 140737488355328) (hn2 : n ≤ 140737488355328) (h : C l n 1 (Ax.ints k (List.replicate n 0))) : mkK P ty (.int k1 l) (.int k2 n) C := by
 refine ⟨e, 1, [.int k 0], bt, k1, k2, l, n, hu, hs, by omega, hz, rfl, hb, rfl, rfl, hl, hn, hn2, ?_⟩
 rw [zerosOf_one]
 have : Ax.ints k (List.replicate n 0) = List.replicate n (.int k 0) := by simp [Ax.ints]
 rw [this] at h
 exact h
def cpK (P : Program) (ty ty' : TypeId) (x y : Value) (M : Mem) (C : Value → Mem → Prop) : Prop := ∃ e e' b off n c cc ds, P.underlying ty = some (.slice e) ∧ P.underlying ty' = some (.slice e') ∧ tsz P e = some 1 ∧ x = .slice (some ⟨b, off, none⟩) n c ∧ M[b]? = some (.row true 1 cc) ∧
 Sl M y 1 ds ∧ ds.length ≤ n ∧ 0 < ds.length ∧ off + ds.length ≤ cc.length ∧ C (.int .i64 ds.length) (M.set b (.row true 1 (spl cc off ds)))
section
variable {P : Program} {ops : Array Oper} {todo done : List Nat} {Ls : List (Nat × LP)} {rest : List Oper} {K : List Value → Mem → Prop} {t : List Value} {M : Mem}
variable {i : Nat} {dst : Option Tmp} {type : TypeId} {pos : String} {after : Array Edge}
theorem AL.mk {ty : TypeId} {x y : Operand} (hok : okOpds ⟨dst, .makeSlice ty x y, type, pos, after, none⟩ = true)
  (h : mkK P ty (ev t x) (ev t y) fun l n s cs => AL P ops rest K (putT t dst (.slice (some ⟨M.length, 0, none⟩) l n)) (M ++ [.row true s cs])) : AL P ops (⟨dst, .makeSlice ty x y, type, pos, after, none⟩ :: rest) K t M := by
 obtain ⟨e, s, z, bt, k, k', l, n, hu, hs, h0, hz, hzl, hb, hx, hy, hl, hn, hn2, hc⟩ := h
 exact AL.op hok rfl (AOp.fresh (fresh_mk rfl hu hs h0 hz hzl hb hx hy hl hn hn2) hc)
theorem AH.mk {ty : TypeId} {x y : Operand} (hok : okOpds ⟨dst, .makeSlice ty x y, type, pos, after, none⟩ = true)
  (h : mkK P ty (ev t x) (ev t y) fun l n s cs => ADL P ops todo (i :: done) Ls K (putT t dst (.slice (some ⟨M.length, 0, none⟩) l n)) (M ++ [.row true s cs])) : AH P ops dst (.makeSlice ty x y) type pos after none i todo done Ls K t M := fun ho => by
 obtain ⟨e, s, z, bt, k, k', l, n, hu, hs, h0, hz, hzl, hb, hx, hy, hl, hn, hn2, hc⟩ := h
 exact ADL.fr ho rfl hok rfl (fresh_mk rfl hu hs h0 hz hzl hb hx hy hl hn hn2) hc
theorem AL.cp {ty ty' : TypeId} {x y : Operand} (hok : okOpd x = true) (hok' : okOpd y = true)
  (h : cpK P ty ty' (ev t x) (ev t y) M fun v M' => AL P ops rest K (putT t dst v) M') : AL P ops (⟨dst, .call { callee := .builtin .copy, args := ⟨[x, y]⟩, argTypes := ⟨[ty, ty']⟩ }, type, pos, after, none⟩ :: rest) K t M := by
 obtain ⟨e, e', b, off, n, c, cc, ds, hu, hu', hs, hx, hB, hy, hn, h0, hle, hc⟩ := h
 exact AL.op (by simp [okOpds, calmOp, Op.operands, Call.operands, hok, hok']) rfl (AOp.copy rfl hu hu' hs hx hB hy hn h0 hle hc)
theorem AL.mz {g x : Operand} {tys : Array TypeId} {ty e : TypeId} (hok : okOpd g = true) (hok' : okOpd x = true) {f : FuncId} (hg : ev t g = .func (.func f) #[] #[]) {fn : Func} (hf : P.funcs[f]? = some fn) (hb : fn.body = none) (hnm : (fn.name == "runtime.NumGoroutine") = false)
  (h1 : Extern.findNext fn = none) (h2 : Extern.find fn = some (Extern.BytealgMakeNoZero.makeNoZero #[3] #[ty])) (ht : P.underlying ty = some (.slice e)) (hs : tsz P e = some 1) {n : Nat} (hx : ev t x = .int .i64 n) (h0 : 0 < n) (hn : n ≤ 1000000)
  (hk : ∀ xs : List Int, xs.length = n → AL P ops rest K (putT t dst (.slice (some ⟨M.length, 0, none⟩) n (capLow + n))) (M ++ [.row true 1 (ints .u8 xs)])) : AL P ops (⟨dst, .call { callee := .value g, args := ⟨[x]⟩, argTypes := tys }, type, pos, after, none⟩ :: rest) K t M :=
 AL.op (by simp [okOpds, calmOp, Op.operands, Call.operands, hok, hok']) rfl (AOp.noZero rfl hg hf hb hnm h1 h2 ht hs hx h0 hn hk)
theorem AH.cpN {ty ty' : TypeId} {x y : Operand} (hok : okOpd x = true) (hok' : okOpd y = true) (hL : (Ls.map Prod.fst).all (fun x => bef ops x i) = true)
  (h : cpK P ty ty' (ev t x) (ev t y) M fun v M' => ADL P ops todo (i :: done) [] K (putT t dst v) M') : AH P ops dst (.call { callee := .builtin .copy, args := ⟨[x, y]⟩, argTypes := ⟨[ty, ty']⟩ }) type pos after none i todo done Ls K t M := fun ho => by
 obtain ⟨e, e', b, off, n, c, cc, ds, hu, hu', hs, hx, hB, hy, hn, h0, hle, hc⟩ := h
 refine ADL.ef ho rfl (by simp [okOpds, calmOp, Op.operands, Call.operands, hok, hok']) rfl ((AOp.copy (K := fun v M' => ADL P ops todo (i :: done) [] K (putT t dst v) M') rfl hu hu' hs hx hB hy hn h0 hle hc).mono fun v M' h => ?_)
 rw [filt_none hL]
 exact ⟨by simp, h⟩
end
end Go.Proofs.Ytbdejnnbpdgjlaa.Ax
namespace Go.Proofs.Ytbdejnnbpdgjlaa.Ax
open Go Go.RowKit
open Nat renaming reduceAdd → ν1, reduceMul → ν2, reduceLeDiff → ν3, reduceLT → ν4, reduceSub → ν5
open Int renaming reduceNe → ζ1, reduceEq → ζ2, reduceLE → ζ3, reduceLT → ζ4, reduceToNat → ζ5
set_option linter.unusedVariables false
set_option linter.unusedSimpArgs false
set_option maxRecDepth 100000
set_option maxHeartbeats 20000000
attribute [local irreducible] thenA blockA scopeA retA AL AW AD ADL AH clrK CallA apure aload bload appK ptrK fnK ares szOk planOk okOps
theorem nz_next : Extern.findNext Try.f101 = none := by kernel_rfl
theorem nz_find : Extern.find Try.f101 = some (Extern.BytealgMakeNoZero.makeNoZero #[3] #[39]) := by kernel_rfl
theorem nz_fn : Try.prog.funcs[101]? = some Try.f101 := by kernel_rfl
theorem aslice_full {b n : Nat} (h : n < capLow) : aslice (.slice (some ⟨b, 0, none⟩) n (capLow + n)) 1 none (some (.int .i64 (n : Int))) (some (.int .i64 (n : Int))) = some (.slice (some ⟨b, 0, none⟩) n n) := by
 have := capLb_add n
 simp [aslice, natOf, isSl, sln, scp, subsl, this, h]
theorem capLb_small {n : Nat} (h : n < 4611686018427387904) : capLb n = n := by exact if_pos h
theorem capSub_small {n l : Nat} (h : n < 4611686018427387904) : capSub n l = n - l := by exact if_pos h
theorem cap16 : 16 ≤ capLb 16 := Nat.le_of_eq (capLb_small (n := 16) (by omega)).symm
theorem σb_Ms2 {g n : Prop} (k : n) (h : n → g := by first | exact AL.ld rfl | exact AL.bx rfl | exact AL.al | exact AL.lt rfl | exact AL.st rfl rfl | exact AL.ap rfl rfl | exact AL.ca rfl | exact AL.slW (by kernel_rfl) rfl | exact AL.pu rfl | exact AL.guF rfl (by first | rfl | assumption) | exact AL.skip rfl) : g := h k
theorem a129_Ms2 {g n : Prop} (k : n) (h : n → g := by first | exact AL.mk rfl | exact AL.cp rfl rfl) : g := h k
theorem a100_Ms2 {g n : Prop} (k : n) (h : n → g := by first | exact AL.mk rfl | exact AL.cp rfl rfl) : g := h k
theorem σy_Ms2 {g n : Prop} (k : n) (h : n → g := by first | exact AL.ld rfl | exact AL.bx rfl | exact AL.al | exact AL.lt rfl | exact AL.st rfl rfl | exact AL.ap rfl rfl | exact AL.slW (by kernel_rfl) rfl | exact AL.guF rfl (by first | rfl | assumption) | exact AL.skip rfl) : g := h k
theorem d62_Ms2 {g n : Prop} (k : n) (h : n → g := by first | exact AW.dr (id := 20) (by rfl) [0, 1, 2, 3, 4, 5, 6, 7, 8, 9] (by kernel_rfl) (by kernel_rfl)) : g := h k
theorem a62_Ms2 {g n : Prop} (k : n) (h : n → g := by first | exact AL.mk rfl | exact AL.cp rfl rfl | exact AH.mk rfl | exact AH.cpN rfl rfl (by kernel_rfl)) : g := h k
theorem mul64_spec (M : Mem) : CallA Try.prog 129 [.int .u64 1, .int .u64 16] M fun r M' => M' = M ∧ r = .tuple ⟨[.int .u64 0, .int .u64 16]⟩ := by
 have m0 : bits .u64 (BitVec.ofInt IntKind.u64.bits 0 &&& BitVec.ofInt IntKind.u64.bits 4294967295) = .int .u64 0 := by rfl
 have m1 : bits .u64 (BitVec.ofInt IntKind.u64.bits 1 &&& BitVec.ofInt IntKind.u64.bits 4294967295) = .int .u64 1 := by rfl
 have m16 : bits .u64 (BitVec.ofInt IntKind.u64.bits 16 &&& BitVec.ofInt IntKind.u64.bits 4294967295) = .int .u64 16 := by rfl
 have p32 : (2 : Int) ^ min 32 IntKind.u64.bits = 4294967296 := by decide
 have f0 : Int.fdiv 0 4294967296 = 0 := by decide
 have f1 : Int.fdiv 1 4294967296 = 0 := by decide
 have f16 : Int.fdiv 16 4294967296 = 0 := by decide
 have w0 : IntKind.u64.wrap 0 = 0 := by decide
 have w16 : IntKind.u64.wrap 16 = 16 := by decide
 (refine CallA.of_body Try.func129 rfl (by rfl) ?_; simp only [Try.ntmps129, List.length_cons, List.length_nil, List.replicate, List.cons_append, List.nil_append, Nat.reduceSub, Nat.reduceAdd])
 (repeat (first | refine st ?_ | refine σa ?_ | ((first | refine a129_Ms2 ?_ | refine σb_Ms2 ?_); simp (disch := omega) only [push_cast, ↓reduceIte, reduceCtorEq, ν1, ν2, ν3, ν4, ν5, ζ1, ζ2, ζ3, ζ4, ζ5, m0, m1, m16, p32, f0, f1, f16, w0, w16, Int.mul_zero, Int.zero_mul, Int.one_mul, Int.mul_one, Int.add_zero, Int.zero_add])))
 ((first | refine retA.ret (by rfl) ?_ | refine retA.normal (by rfl) ?_); simp (disch := omega) only [push_cast, ↓reduceIte, reduceCtorEq, Nat.reduceAdd, Nat.reduceMul, Nat.reduceLeDiff, Nat.reduceLT, Nat.reduceSub, Int.reduceNe, Int.reduceEq, Int.reduceLE, Int.reduceLT, Int.reduceToNat])
theorem mul_spec (M : Mem) : CallA Try.prog 100 [.int .u64 1, .int .u64 16] M fun r M' => M' = M ∧ r = .tuple ⟨[.int .u64 0, .int .u64 16]⟩ := by
 have w0 : IntKind.u64.wrap 0 = 0 := by decide
 have w1 : IntKind.u64.wrap 1 = 1 := by decide
 have w16 : IntKind.u64.wrap 16 = 16 := by decide
 (refine CallA.of_body Try.func100 rfl (by rfl) ?_; simp only [Try.ntmps100, List.length_cons, List.length_nil, List.replicate, List.cons_append, List.nil_append, Nat.reduceSub, Nat.reduceAdd])
 (repeat (first | refine st ?_ | refine σa ?_ | ((first | refine a100_Ms2 ?_ | refine σb_Ms2 ?_); simp (disch := omega) only [push_cast, ↓reduceIte, reduceCtorEq, ν1, ν2, ν3, ν4, ν5, ζ1, ζ2, ζ3, ζ4, ζ5, w0, w1, w16])))
 refine (mul64_spec M).mono ?_
 rintro r M2 ⟨rfl, rfl⟩
 (repeat (first | refine st ?_ | refine σa ?_ | ((first | refine a100_Ms2 ?_ | refine σb_Ms2 ?_); simp (disch := omega) only [push_cast, ↓reduceIte, reduceCtorEq, ν1, ν2, ν3, ν4, ν5, ζ1, ζ2, ζ3, ζ4, ζ5, w0, w1, w16])))
 ((first | refine retA.ret (by rfl) ?_ | refine retA.normal (by rfl) ?_); simp (disch := omega) only [push_cast, ↓reduceIte, reduceCtorEq, Nat.reduceAdd, Nat.reduceMul, Nat.reduceLeDiff, Nat.reduceLT, Nat.reduceSub, Int.reduceNe, Int.reduceEq, Int.reduceLE, Int.reduceLT, Int.reduceToNat])
set_option maxRecDepth 20000 in
theorem rep_spec (v : Value) (M : Mem) (hv : Sl M v 1 (ints .u8 [255])) : CallA Try.prog 62 [v, .int .i64 16] M fun r M' => Fr M M' [] ∧ New M M' r 1 (ints .u8 (List.replicate 16 255)) := by
 have hs := hv.isSl
 have hn : sln v = 1 := hv.lnI
 have w0 : IntKind.u64.wrap 0 = 0 := by decide
 have w1 : IntKind.u64.wrap 1 = 1 := by decide
 have w16 : IntKind.u64.wrap 16 = 16 := by decide
 have wi1 : IntKind.i64.wrap 1 = 1 := by decide
 have wi16 : IntKind.i64.wrap 16 = 16 := by decide
 have n1 : ((1 : Nat) : Int) = 1 := rfl
 (refine CallA.of_body Try.func62 rfl (by rfl) ?_; simp only [Try.ntmps62, List.length_cons, List.length_nil, List.replicate, List.cons_append, List.nil_append, Nat.reduceSub, Nat.reduceAdd])
 (repeat (first | refine st ?_ | refine σa ?_ | refine d62_Ms2 ?_ | ((first | refine a62_Ms2 ?_ | refine σy_Ms2 ?_ | refine σc ?_); simp (disch := omega) only [push_cast, ↓reduceIte, reduceCtorEq, ν1, ν2, ν3, ν4, ν5, ζ1, ζ2, ζ3, ζ4, ζ5, hs, hn, w0, w1, w16, n1]) | (refine AL.pu rfl ?_; simp (disch := omega) only [push_cast, ↓reduceIte, reduceCtorEq, ν1, ν2, ν3, ν4, ν5, ζ1, ζ2, ζ3, ζ4, ζ5, hs, hn, w0, w1, w16, n1]; refine id (α := AL _ _ _ _ _ _) ?_)))
 refine AL.ca rfl ?_
 simp (disch := omega) only [push_cast, ↓reduceIte, reduceCtorEq, Nat.reduceAdd, Nat.reduceMul, Nat.reduceLeDiff, Nat.reduceLT, Nat.reduceSub, Int.reduceNe, Int.reduceEq, Int.reduceLE, Int.reduceLT, Int.reduceToNat]
 refine (mul_spec M).mono ?_
 rintro r M2 ⟨rfl, rfl⟩
 (repeat (first | refine st ?_ | refine σa ?_ | refine d62_Ms2 ?_ | ((first | refine a62_Ms2 ?_ | refine σy_Ms2 ?_ | refine σc ?_); simp (disch := omega) only [push_cast, ↓reduceIte, reduceCtorEq, ν1, ν2, ν3, ν4, ν5, ζ1, ζ2, ζ3, ζ4, ζ5, hs, hn, w0, w1, w16, wi1, wi16, n1]) | (refine AL.pu rfl ?_; simp (disch := omega) only [push_cast, ↓reduceIte, reduceCtorEq, ν1, ν2, ν3, ν4, ν5, ζ1, ζ2, ζ3, ζ4, ζ5, hs, hn, w0, w1, w16, wi1, wi16, n1]; refine id (α := AL _ _ _ _ _ _) ?_)))
 refine AL.mz (f := 101) (fn := Try.f101) (ty := 39) (e := 5) (n := 16) rfl rfl rfl nz_fn rfl (by kernel_rfl) nz_next nz_find (by kernel_rfl) (by kernel_rfl) rfl (by omega) (by omega) fun xs hxs => ?_
 simp (disch := omega) only [push_cast, ↓reduceIte, reduceCtorEq, Nat.reduceAdd, Nat.reduceMul, Nat.reduceLeDiff, Nat.reduceLT, Nat.reduceSub, Int.reduceNe, Int.reduceEq, Int.reduceLE, Int.reduceLT, Int.reduceToNat]
 have as1 : aslice (.slice (some ⟨M2.length, 0, none⟩) 16 (capLow + 16)) 1 none (some (.int .i64 16)) (some (.int .i64 16)) = some (.slice (some ⟨M2.length, 0, none⟩) 16 16) := aslice_full (n := 16) (by show 16 < 4611686018427387904; omega)
 have F3 := Fr.push M2 (.row true 1 (ints .u8 xs))
 have A3 := At.push M2 (.row true 1 (ints .u8 xs))
 have hsz : szOk (M2 ++ [.row true 1 (ints .u8 xs)]) (.slice (some ⟨M2.length, 0, none⟩) 16 (capLow + 16)) 1 := (Own.row (s := 1) (n := 16) (c := capLow + 16) (by omega) A3.get (by rw [ints_length, hxs]) (ints_one _ _) (capLb_add _)).sl.sz
 obtain ⟨M3, hM3⟩ : ∃ M3, M3 = M2 ++ [.row true 1 (ints .u8 xs)] := ⟨_, rfl⟩
 rw [← hM3] at F3 A3 hsz ⊢
 (repeat (first | refine st ?_ | refine σa ?_ | refine d62_Ms2 ?_ | ((first | refine a62_Ms2 ?_ | refine σy_Ms2 ?_ | refine σc ?_); simp (disch := omega) only [push_cast, ↓reduceIte, reduceCtorEq, ν1, ν2, ν3, ν4, ν5, ζ1, ζ2, ζ3, ζ4, ζ5, hs, hn, w0, w1, w16, wi1, wi16, n1, as1, hsz, Option.map_none]) | (refine AL.pu rfl ?_; simp (disch := omega) only [push_cast, ↓reduceIte, reduceCtorEq, ν1, ν2, ν3, ν4, ν5, ζ1, ζ2, ζ3, ζ4, ζ5, hs, hn, w0, w1, w16, wi1, wi16, n1, as1, hsz, Option.map_none]; refine id (α := AL _ _ _ _ _ _) ?_)))
 refine ⟨5, 5, M2.length, 0, 16, 16, ints .u8 xs, ints .u8 [255], by kernel_rfl, by kernel_rfl, by kernel_rfl, rfl, A3.get, hv.keep F3 (by simp), by show 1 ≤ 16; omega, by show 0 < 1; omega, by show 0 + 1 ≤ _; rw [ints_length]; omega, ?_⟩
 have A4 := A3.set (.row true 1 (spl (ints .u8 xs) 0 (ints .u8 [255])))
 have F4 : Fr M2 _ [] := (F3.trans (Fr.set M3 M2.length (.row true 1 (spl (ints .u8 xs) 0 (ints .u8 [255]))))).cut (fun b hb hlt => by simp at hb; omega)
 have e4 : spl (ints .u8 xs) 0 (ints .u8 [255]) = ints .u8 (List.replicate 1 255 ++ xs.drop 1) := by simp [spl, ints]
 rw [e4] at A4 F4 ⊢
 generalize M3.set M2.length (.row true 1 (ints .u8 (List.replicate 1 255 ++ xs.drop 1))) = M4 at *
 (repeat (first | refine st ?_ | refine σa ?_ | refine d62_Ms2 ?_ | ((first | refine a62_Ms2 ?_ | refine σy_Ms2 ?_ | refine σc ?_); simp (disch := omega) only [push_cast, ↓reduceIte, reduceCtorEq, ν1, ν2, ν3, ν4, ν5, ζ1, ζ2, ζ3, ζ4, ζ5]) | (refine AL.pu rfl ?_; simp (disch := omega) only [push_cast, ↓reduceIte, reduceCtorEq, ν1, ν2, ν3, ν4, ν5, ζ1, ζ2, ζ3, ζ4, ζ5]; refine id (α := AL _ _ _ _ _ _) ?_)))
 refine AW.loopF [10, 11, 61, 62, 63, 64, 65, 66, 67, 68, 69, 70, 71, 72, 73, 74, 75] (fun n g M' => ∃ k : Nat, (k = 1 ∨ k = 2 ∨ k = 4 ∨ k = 8 ∨ k = 16) ∧ g 10 = .int .i64 k ∧ k + n = 16 ∧ Fr M2 M' [] ∧ ∃ zs, zs.length = 16 - k ∧ At M' M2.length (.row true 1 (ints .u8 (List.replicate k 255 ++ zs)))) 15 ?_ ?_
 ·exact ⟨1, .inl rfl, rfl, rfl, F4, xs.drop 1, by rw [List.length_drop, hxs], A4⟩
 rintro n g M5 ⟨k, hk, h10, hkn, F5, zs, hz, A5⟩
 simp (disch := omega) only [push_cast, ↓reduceIte, reduceCtorEq, Nat.reduceAdd, Nat.reduceMul, Nat.reduceLeDiff, Nat.reduceLT, Nat.reduceSub, Int.reduceNe, Int.reduceEq, Int.reduceLE, Int.reduceLT, Int.reduceToNat, h10]
 by_cases hlt : k < 16
 ·have hk8 : k ≤ 8 := by omega
  have dlt : decide ((k : Int) < 16) = true := decide_eq_true (by omega)
  obtain ⟨r, hr⟩ : ∃ r, r = 16 - k := ⟨_, rfl⟩
  have own5 := Own.row (s := 1) (n := 16) (c := 16) (by omega) A5.get (by rw [ints_length, List.length_append, List.length_replicate, hz]; omega) (ints_one _ _) cap16
  have hsz5 := own5.sl.sz
  have b1 : aslice (.slice (some ⟨M2.length, 0, none⟩) 16 16) 1 (some (.int .i64 (k : Int))) none none = some (.slice (some ⟨M2.length, k, none⟩) (16 - k) (16 - k)) := by
   have := aslice_from (b := M2.length) (off := 0) (n := 16) (c := 16) (s := 1) (k := k) (by omega)
   rw [Nat.zero_add, Nat.mul_one] at this
   rw [this, capSub_small (n := 16) (l := k) (by omega)]
  have b2 : aslice (.slice (some ⟨M2.length, 0, none⟩) 16 16) 1 none (some (.int .i64 (k : Int))) none = some (.slice (some ⟨M2.length, 0, none⟩) k 16) := by
   rw [aslice_to (Nat.le_trans (by omega) cap16), capSub_small (n := 16) (l := 0) (by omega)]
  have hmin : (if (16 : Int) < k then (16 : Int) else k) = k := by rw [if_neg (by omega)]
  have hbl5 := own5.sl.blks
  (repeat (first | refine st ?_ | refine σa ?_ | refine d62_Ms2 ?_ | ((first | refine a62_Ms2 ?_ | refine σy_Ms2 ?_ | refine σc ?_); simp (disch := omega) only [push_cast, ↓reduceIte, reduceCtorEq, ν1, ν2, ν3, ν4, ν5, ζ1, ζ2, ζ3, ζ4, ζ5, b1, b2, hsz5, hbl5, hmin, dlt, Option.map_none]) | (refine AL.pu rfl ?_; simp (disch := omega) only [push_cast, ↓reduceIte, reduceCtorEq, ν1, ν2, ν3, ν4, ν5, ζ1, ζ2, ζ3, ζ4, ζ5, b1, b2, hsz5, hbl5, hmin, dlt, Option.map_none]; refine id (α := AL _ _ _ _ _ _) ?_)))
  obtain ⟨w, hw, pw⟩ := own5.sl.pcTo k (by rw [List.length_append, List.length_replicate, hz]; omega)
  rw [b2] at hw
  obtain rfl := Option.some.inj hw
  have hs5 := pw.sl
  rw [List.take_append_of_le_length (by rw [List.length_replicate]; omega), List.take_of_length_le (by rw [List.length_replicate]; omega)] at hs5
  have lk : (ints .u8 (List.replicate k 255)).length = k := by rw [ints_length, List.length_replicate]
  refine ⟨5, 5, M2.length, k, 16 - k, 16 - k, _, ints .u8 (List.replicate k 255), by kernel_rfl, by kernel_rfl, by kernel_rfl, rfl, A5.get, hs5, by rw [lk]; omega, by rw [lk]; omega, by rw [lk, ints_length, List.length_append, List.length_replicate, hz]; omega, ?_⟩
  have A6 := A5.set (.row true 1 (spl (ints .u8 (List.replicate k 255 ++ zs)) k (ints .u8 (List.replicate k 255))))
  have F6 : Fr M2 _ [] := (F5.trans (Fr.set M5 M2.length (.row true 1 (spl (ints .u8 (List.replicate k 255 ++ zs)) k (ints .u8 (List.replicate k 255)))))).cut (fun b hb hlt => by simp at hb; omega)
  have e6 : spl (ints .u8 (List.replicate k 255 ++ zs)) k (ints .u8 (List.replicate k 255)) = ints .u8 (List.replicate (k + k) 255 ++ zs.drop k) := by
   unfold spl
   rw [lk, ints_take, ints_drop, ints_append, ints_append, List.take_append_of_le_length (by rw [List.length_replicate]; omega), List.take_of_length_le (by rw [List.length_replicate]; omega), List.drop_append, List.drop_eq_nil_of_le (by rw [List.length_replicate]; omega), List.length_replicate, Nat.add_sub_cancel, List.nil_append, show List.replicate (k + k) (255 : Int) = List.replicate k 255 ++ List.replicate k 255 from by rw [List.replicate_append_replicate]]
  rw [e6] at A6 F6 ⊢
  rw [lk]
  generalize M5.set M2.length (.row true 1 (ints .u8 (List.replicate (k + k) 255 ++ zs.drop k))) = M6 at *
  have wkk : IntKind.i64.wrap ((k : Int) + k) = ((k + k : Nat) : Int) := by rw [w_i64 (by omega) (by omega)]; omega
  (repeat (first | refine st ?_ | refine σa ?_ | refine d62_Ms2 ?_ | ((first | refine a62_Ms2 ?_ | refine σy_Ms2 ?_ | refine σc ?_); simp (disch := omega) only [push_cast, ↓reduceIte, reduceCtorEq, ν1, ν2, ν3, ν4, ν5, ζ1, ζ2, ζ3, ζ4, ζ5, wkk]) | (refine AL.pu rfl ?_; simp (disch := omega) only [push_cast, ↓reduceIte, reduceCtorEq, ν1, ν2, ν3, ν4, ν5, ζ1, ζ2, ζ3, ζ4, ζ5, wkk]; refine id (α := AL _ _ _ _ _ _) ?_)))
  refine ⟨rfl, n - k, by omega, k + k, by omega, by show Value.int .i64 ((k : Int) + k) = .int .i64 ((k + k : Nat) : Int); rw [Int.natCast_add], by omega, F6, zs.drop k, by rw [List.length_drop, hz]; omega, A6⟩
 ·obtain rfl : k = 16 := by omega
  have dlt : decide (((16 : Nat) : Int) < 16) = false := by decide
  have dlt' : decide ((16 : Int) < 16) = false := by decide
  have n16 : ((16 : Nat) : Int) = 16 := rfl
  rw [n16]
  (repeat (first | refine st ?_ | refine σn ?_ | refine d62_Ms2 ?_ | ((first | refine a62_Ms2 ?_ | refine σb_Ms2 ?_ | refine σc ?_); simp (disch := omega) only [push_cast, ↓reduceIte, reduceCtorEq, ν1, ν2, ν3, ν4, ν5, ζ1, ζ2, ζ3, ζ4, ζ5, dlt'])))
  refine AW.condF rfl rfl rfl ?_
  (repeat (first | refine st ?_ | refine σa ?_ | refine d62_Ms2 ?_ | ((first | refine a62_Ms2 ?_ | refine σb_Ms2 ?_ | refine σc ?_); simp (disch := omega) only [push_cast, ↓reduceIte, reduceCtorEq, ν1, ν2, ν3, ν4, ν5, ζ1, ζ2, ζ3, ζ4, ζ5])))
  ((first | refine retA.ret (by rfl) ?_ | refine retA.normal (by rfl) ?_); simp (disch := omega) only [push_cast, ↓reduceIte, reduceCtorEq, Nat.reduceAdd, Nat.reduceMul, Nat.reduceLeDiff, Nat.reduceLT, Nat.reduceSub, Int.reduceNe, Int.reduceEq, Int.reduceLE, Int.reduceLT, Int.reduceToNat])
  obtain rfl : zs = [] := List.eq_nil_of_length_eq_zero hz
  rw [List.append_nil] at A5
  exact ⟨F5, Own.row (by omega) A5.get rfl (ints_one _ _) cap16, fun a n c h hc => by cases h; exact Nat.le_refl _⟩
end Go.Proofs.Ytbdejnnbpdgjlaa.Ax
