/- Contracts of functions over the abstract machine. No conditions: lemmas alone. -/
import Derived.Test.YtbdejnnbpdgjlaaMsgXLibD
import Derived.Test.YtbdejnnbpdgjlaaMsgXP3
import Derived.Test.YtbdejnnbpdgjlaaMsgXP11
import Derived.Test.YtbdejnnbpdgjlaaMsgXP0
namespace Go.Proofs.Ytbdejnnbpdgjlaa.Ax
open Go Go.RowKit
set_option linter.unusedVariables false
set_option linter.unusedSimpArgs false
set_option maxRecDepth 100000
set_option maxHeartbeats 20000000
/-! messages -/
structure MV where
  kind : Int
  asn : Int
  id : Int
  hold : Int
  gone : List PX
  attrs : AV
  new : List PX
  code : Int
  sub : Int
  data : List Int
def MV.zero : MV := ⟨0, 0, 0, 0, [], AV.zero, [], 0, 0, []⟩
def pairAt (xs : List Int) (i : Nat) : Int := xs.getD i 0 * 256 + xs.getD (i + 1) 0
def shortP (asn : Int) : Int := if asn > 65535 then 23456 else asn
/-- Capabilities: the last number of four bytes, whether there is one; none: they aren't right. -/
def capP : Nat → List Int → Int → Bool → Option (Int × Bool)
  | 0, _, _, _ => none
  | f + 1, v, asn, has => if v = [] then some (asn, has) else if v.length < 2 ∨ v.length - 2 < (v.getD 1 0).toNat ∨ (v.getD 0 0 = 65 ∧ v.getD 1 0 ≠ 4) then none
      else capP f (v.drop (2 + (v.getD 1 0).toNat)) (if v.getD 0 0 = 65 then wordAt v 2 else asn) (if v.getD 0 0 = 65 then true else has)
/-- Parameters; a fault's subcode, or what they tell. -/
def parP : Nat → List Int → Int → Bool → Int ⊕ (Int × Bool)
  | 0, _, _, _ => .inl 0
  | f + 1, v, asn, has => if v = [] then .inr (asn, has) else if v.length < 2 ∨ v.length - 2 < (v.getD 1 0).toNat then .inl 0 else if v.getD 0 0 ≠ 2 then .inl 4
      else match capP ((v.getD 1 0).toNat + 1) ((v.drop 2).take (v.getD 1 0).toNat) asn has with
        | none => .inl 0
        | some (asn', has') => parP f (v.drop (2 + (v.getD 1 0).toNat)) asn' has'
def openP (b : List Int) : MV × (Int × Int) :=
  if b.getD 0 0 ≠ 4 then (MV.zero, (2, 1)) else if b.getD 9 0 ≠ (b.length : Int) - 10 then (MV.zero, (2, 0))
  else match parP (b.length + 1) (b.drop 10) 0 false with
    | .inl s => (MV.zero, (2, s))
    | .inr (asn, has) => if has = false then (MV.zero, (2, 7)) else if asn = 0 ∨ pairAt b 1 ≠ shortP asn then (MV.zero, (2, 2)) else if pairAt b 3 = 1 ∨ pairAt b 3 = 2 then (MV.zero, (2, 6)) else if wordAt b 5 = 0 then (MV.zero, (2, 3))
        else ({ MV.zero with kind := 1, asn := asn, id := wordAt b 5, hold := pairAt b 3 }, (0, 0))
/-- An Update's parts: how many bytes tell what is gone, and the attributes. -/
def updG (b : List Int) : Nat := (pairAt b 0).toNat
def updA (b : List Int) : Nat := (pairAt b (2 + updG b)).toNat
def updateP (b : List Int) : MV × (Int × Int) :=
  if b.length < 4 + updG b ∨ b.length < 4 + updG b + updA b then (MV.zero, (3, 1))
  else if (nlR ((b.drop 2).take (updG b))).2 ≠ 0 ∨ (nlR (b.drop (4 + updG b + updA b))).2 ≠ 0 then (MV.zero, (3, 10))
  else if (rdP (decide ((nlR (b.drop (4 + updG b + updA b))).1 ≠ [])) ((b.drop (4 + updG b)).take (updA b))).2 ≠ 0 then (MV.zero, (3, (rdP (decide ((nlR (b.drop (4 + updG b + updA b))).1 ≠ [])) ((b.drop (4 + updG b)).take (updA b))).2))
  else ({ MV.zero with kind := 2, gone := (nlR ((b.drop 2).take (updG b))).1, attrs := (rdP (decide ((nlR (b.drop (4 + updG b + updA b))).1 ≠ [])) ((b.drop (4 + updG b)).take (updA b))).1, new := (nlR (b.drop (4 + updG b + updA b))).1 }, (0, 0))
def leastP (k : Int) : Int := if k = 1 then 29 else if k = 2 then 23 else if k = 3 then 21 else 19
def headF (b : List Int) : Int × Int := if pairAt b 16 < 19 ∨ pairAt b 16 > 4096 then (1, 2) else if b.getD 18 0 < 1 ∨ b.getD 18 0 > 4 then (1, 3) else if pairAt b 16 < leastP (b.getD 18 0) ∨ (b.getD 18 0 = 4 ∧ pairAt b 16 > 19) then (1, 2) else (0, 0)
def bodyP (k : Int) (b : List Int) : MV × (Int × Int) :=
  if k = 1 then openP b else if k = 2 then updateP b else if k = 3 then ({ MV.zero with kind := 3, code := b.getD 0 0, sub := b.getD 1 0, data := b.drop 2 }, (0, 0)) else ({ MV.zero with kind := 4 }, (0, 0))
/-- The message that bytes begin with, how many it takes, what is wrong. -/
def readM (b : List Int) : MV × Int × (Int × Int) :=
  if ∃ x ∈ b.take 16, x ≠ 255 then (MV.zero, 0, (1, 1))
  else if b.length < 19 then (MV.zero, 0, (0, 0))
  else if headF b ≠ (0, 0) then (MV.zero, 0, headF b)
  else if (b.length : Int) < pairAt b 16 then (MV.zero, 0, (0, 0))
  else if (bodyP (b.getD 18 0) ((b.drop 19).take ((pairAt b 16).toNat - 19))).2 = (0, 0) then ((bodyP (b.getD 18 0) ((b.drop 19).take ((pairAt b 16).toNat - 19))).1, pairAt b 16, (0, 0))
  else (MV.zero, 0, (bodyP (b.getD 18 0) ((b.drop 19).take ((pairAt b 16).toNat - 19))).2)
def twoB (n : Int) : List Int := [n / 256 % 256, n % 256]
def rightM (m : MV) : Prop :=
  if m.kind = 1 then m.asn ≠ 0 ∧ m.id ≠ 0 ∧ (m.hold = 0 ∨ (3 ≤ m.hold ∧ m.hold ≤ 65535))
  else if m.kind = 2 then (∀ p ∈ m.gone, rightX p) ∧ (∀ p ∈ m.new, rightX p) ∧ (m.new = [] ∨ rightP m.attrs)
  else if m.kind = 3 then 0 ≤ m.code ∧ m.code ≤ 255 ∧ 0 ≤ m.sub ∧ m.sub ≤ 255
  else True
instance (m : MV) : Decidable (rightM m) := by unfold rightM; infer_instance
def attrsB (m : MV) : List Int := if m.new = [] then [] else putP m.attrs
def bodyB (m : MV) : List Int :=
  if m.kind = 1 then 4 :: twoB (shortP m.asn) ++ twoB m.hold ++ addrBytes m.id ++ [8, 2, 6, 65, 4] ++ addrBytes m.asn
  else if m.kind = 2 then twoB ((nlPut m.gone).getD []).length ++ (nlPut m.gone).getD [] ++ twoB (attrsB m).length ++ attrsB m ++ (nlPut m.new).getD []
  else if m.kind = 3 then m.code :: m.sub :: m.data
  else []
/-- A message in bytes; an error. -/
def putM (m : MV) : List Int × Int :=
  if m.kind < 1 ∨ m.kind > 4 then ([], 2) else if ¬ rightM m then ([], 4) else if (bodyB m).length + 19 > 4096 then ([], 6)
  else (List.replicate 16 255 ++ twoB ((bodyB m).length + 19 : Nat) ++ m.kind :: bodyB m, 0)
def ownM (m : MV) : MV :=
  if m.kind = 1 then { MV.zero with kind := 1, asn := m.asn, id := m.id, hold := m.hold }
  else if m.kind = 2 then { MV.zero with kind := 2, gone := m.gone, new := m.new, attrs := if m.new = [] then AV.zero else m.attrs }
  else if m.kind = 3 then { MV.zero with kind := 3, code := m.code, sub := m.sub, data := m.data }
  else { MV.zero with kind := m.kind }

end Go.Proofs.Ytbdejnnbpdgjlaa.Ax

namespace Go.Proofs.Ytbdejnnbpdgjlaa.Ax
open Go Go.RowKit
set_option linter.unusedVariables false
set_option linter.unusedSimpArgs false
set_option maxRecDepth 100000
set_option maxHeartbeats 20000000
/-! a slice that is made, a copy, bytes of whatever values -/
section
variable {P : Program} {o : Oper} {ρ : Operand → Value} {M : Mem} {K : Value → Mem → Prop}
theorem fresh_mk {t e : TypeId} {x y : Operand} (ho : o.op = .makeSlice t x y) {s n l bt : Nat} {k k' : IntKind} {z : List Value} (hu : P.underlying t = some (.slice e)) (hs : tsz P e = some s) (h0 : 0 < s) (hz : tzero P e = some z) (hzl : z.length = s) (hb : tby P e = some bt)
    (hx : ρ x = .int k l) (hy : ρ y = .int k' n) (hl : l ≤ n) (hn : n * bt ≤ 140737488355328) (hn2 : n ≤ 140737488355328) : FreshA P o ρ (.row true s (zerosOf z n)) fun b => .slice (some ⟨b, 0, none⟩) l n := by
  intro ι N0 ρ' b w hN hb' hr
  have hrx := hr x (by rw [ho]; simp [Op.operands])
  have hry := hr y (by rw [ho]; simp [Op.operands])
  rw [hx] at hrx
  rw [hy] at hry
  generalize hx' : ρ' x = x' at hrx
  generalize hy' : ρ' y = y' at hry
  cases hrx
  cases hry
  obtain ⟨i, hi, rfl⟩ : ∃ i, P.info? e = some i ∧ i.bytes = bt := by
    unfold tby at hb
    obtain ⟨i, hi, h⟩ := Option.map_eq_some_iff.1 hb
    exact ⟨i, hi, h⟩
  obtain ⟨zv, hz1, hz2⟩ := run_zero hz w
  have hzs : zv.cells.size = s := by rw [← hzl, ← hz1]; simp
  have hsz : i.size = s := by unfold tsz at hs; rw [hi] at hs; simpa using hs
  have wl : IntKind.i64.wrap (l : Int) = l := by rw [IntKind.wrap_i64]; omega
  have wn : IntKind.i64.wrap (n : Int) = n := by rw [IntKind.wrap_i64]; omega
  have hbn : (i.bytes : Int) * n ≤ 140737488355328 := by
    have h : ((n * i.bytes : Nat) : Int) ≤ 140737488355328 := by omega
    rw [Int.natCast_mul] at h
    rw [Int.mul_comm]; exact h
  have n1 : ¬ (n : Int) < 0 := by omega
  have n2 : ¬ (281474976710656 : Int) < (i.bytes : Int) * n := by omega
  have n3 : ¬ (l : Int) < 0 := by omega
  have n4 : ¬ (n : Int) < l := by omega
  obtain ⟨cs', hrun, hcs⟩ : ∃ cs' : Array Value, (execOp ρ' o).run P w = .ok (.value (.slice (some ⟨w.heap.size, 0, none⟩) l n)) (w.alloc (.cells cs' e)) ∧ cs'.toList = zerosOf z n := by
    by_cases h0n : n * s = 0
    · have hn0 : n = 0 := by
        rcases Nat.mul_eq_zero.1 h0n with h | h
        · exact h
        · omega
      refine ⟨#[], ?_, by rw [hn0]; rfl⟩
      obtain rfl : l = 0 := by omega
      subst hn0
      have w0 : IntKind.i64.wrap 0 = 0 := by decide
      simp [execOp, ho, hx', hy', Instr.makeSlice, run_underlying hu, asInt, asIntOf, run_info hi, run_size hs, w0, newRow, run_newObj]
      rw [show Array.map (fun _ => (default : Value)) (Array.range 0) = #[] from by apply Array.ext'; simp]
    · refine ⟨(Array.range (n * s)).map fun i => zv.cells[i % zv.cells.size]!, ?_, ?_⟩
      · simp [execOp, ho, hx', hy', Instr.makeSlice, run_underlying hu, asInt, asIntOf, run_info hi, run_size hs, wl, wn, n1, n2, n3, n4, h0n, hz2, newRow, run_newObj]
      · have h1 : n * s % zv.cells.size = 0 := by rw [hzs]; simp
        rw [zeros_eq h1 (by omega), hzs, hz1, Nat.mul_div_cancel _ h0]
  have hflat := zerosOf_flat (zero_flat hz) n
  have hlen : cs'.size = n * s := by
    have : cs'.toList.length = n * s := by rw [hcs, zerosOf_length, hzl]
    simpa using this
  let lc : Loc := ⟨w.heap.size, 0, cs'.size, s⟩
  have hub : (ι.upd b lc) b = some lc := by simp [Inj.upd]
  refine ⟨.cells cs' e, .slice (some ⟨w.heap.size, 0, none⟩) l n, lc, hrun, rfl, ?_, ?_⟩
  · refine .slice b 0 l n n lc _ hub hl (.inl rfl) (.inr ⟨rfl, ?_⟩)
    simp [lc, hlen]
  · refine ⟨hb', rfl, cs', e, alloc_get _ _, by simp [lc, hlen, zerosOf_length, hzl], by simp [lc], ?_⟩
    intro j v hj
    obtain ⟨v', h3, h4⟩ := (LRel.of_flat (ι := ι) hflat).get hj
    refine ⟨v', ?_, h4.mono (Inj.upd_le (l := lc) hN)⟩
    rw [← hcs] at h3
    simpa [lc] using h3
theorem AOp.copy {t t' e e' : TypeId} {x y : Operand} (ho : o.op = .call { callee := .builtin .copy, args := #[x, y], argTypes := #[t, t'] }) (ht : P.underlying t = some (.slice e)) (ht' : P.underlying t' = some (.slice e')) (hs : tsz P e = some 1)
    {b off n c : Nat} (hx : ρ x = .slice (some ⟨b, off, none⟩) n c) {cc ds : List Value} (hB : M[b]? = some (.row true 1 cc)) (hy : Sl M (ρ y) 1 ds) (hn : ds.length ≤ n) (h0 : 0 < ds.length) (hle : off + ds.length ≤ cc.length)
    (hk : K (.int .i64 ds.length) (M.set b (.row true 1 (spl cc off ds)))) : AOp P o ρ M K := by
  intro ι N0 a w KC QC hor hm hc
  have hrx := hor x (by rw [ho]; simp [Op.operands, Call.operands])
  have hry := hor y (by rw [ho]; simp [Op.operands, Call.operands])
  obtain ⟨ds', hds, hsrc⟩ := hy.src hm hry ht'
  have hdl := hy.len
  rw [hx] at hrx
  generalize hz : a.eval x = z at hrx
  cases hrx with
  | slice _ _ _ _ cap' l a' hbl hle' hcap ha =>
    obtain ⟨rfl, hlim⟩ := ha.resolve_left (by omega)
    have hne : ds ≠ [] := List.length_pos_iff.1 h0
    obtain ⟨cc', e2, hg, hle2, hB'⟩ := (hm.blk b _ l hB hbl).stored rfl hne hle hds
    have hst := run_storeCells_at P l.g (l.base + off) e2 ds' 0 cc' w hg (by simpa using hle2) hsrc.one
    simp only [Nat.add_zero] at hst
    have hl2 : ds'.length = ds.length := hds.length.symm
    have hsl : sln (ρ y) = ds.length := by omega
    have hln := hsrc.len
    have hcl := hsrc.cells
    rw [hsl] at hln hcl
    have hmin : Nat.min ds.length n = ds.length := Nat.min_eq_left hn
    unfold Oper.wp
    have hrun : (execOp a.eval o).run P w = .ok (.value (.int .i64 ds.length)) (w.setRow l.g (cc'.toList.take (l.base + off) ++ ds' ++ cc'.toList.drop (l.base + off + ds'.length)).toArray) := by
      simp [execOp, ho, hz, resolve, invoke, builtin, Builtin.copy_, run_underlying ht, run_size hs, hln, hmin, hcl, hst, goInt]
    rw [hrun]
    have hw : ∀ g, g ≠ l.g → (w.setRow l.g (cc'.toList.take (l.base + off) ++ ds' ++ cc'.toList.drop (l.base + off + ds'.length)).toArray).heap[g]? = w.heap[g]? := fun g hg => setRow_other w l.g g _ hg
    exact hc _ _ _ ι _ (VRel.int _ _) (hm.turn hB rfl hbl hw (by simp) hB') (Ext.turn hm hB rfl hbl hw (by simp) rfl rfl rfl) hk
theorem digits_ints : ∀ (n t : Nat) (acc : Array Value) (xs : List Int), acc.toList = ints .u8 xs → ∃ ys : List Int, (Extern.BytealgMakeNoZero.digits n t acc).toList = ints .u8 (xs ++ ys) ∧ ys.length = n
  | 0, _, _, xs, h => ⟨[], by rw [List.append_nil]; exact h, rfl⟩
  | n + 1, t, acc, xs, h => by
    obtain ⟨ys, h1, h2⟩ := digits_ints n (t / 256) (acc.push (.int .u8 (Int.ofNat (t % 256)))) (xs ++ [Int.ofNat (t % 256)]) (by simp [h, ints])
    exact ⟨Int.ofNat (t % 256) :: ys, by rw [Extern.BytealgMakeNoZero.digits, h1]; simp, by simp [h2]⟩
theorem AOp.noZero {g x : Operand} {tys : Array TypeId} {t e : TypeId} (ho : o.op = .call { callee := .value g, args := #[x], argTypes := tys }) {f : FuncId} (hg : ρ g = .func (.func f) #[] #[]) {fn : Func} (hf : P.funcs[f]? = some fn) (hb : fn.body = none) (hnm : (fn.name == "runtime.NumGoroutine") = false)
    (h1 : Extern.findNext fn = none) (h2 : Extern.find fn = some (Extern.BytealgMakeNoZero.makeNoZero #[3] #[t])) (ht : P.underlying t = some (.slice e)) (hs : tsz P e = some 1) {n : Nat} (hx : ρ x = .int .i64 n) (h0 : 0 < n) (hn : n ≤ 1000000)
    (hk : ∀ xs : List Int, xs.length = n → K (.slice (some ⟨M.length, 0, none⟩) n (capLow + n)) (M ++ [.row true 1 (ints .u8 xs)])) : AOp P o ρ M K := by
  intro ι N0 a w KC QC hor hm hc
  have hrg := hor g (by rw [ho]; simp [Op.operands, Call.operands])
  have hrx := hor x (by rw [ho]; simp [Op.operands, Call.operands])
  rw [hg] at hrg
  rw [hx] at hrx
  generalize hz : a.eval g = z at hrg
  generalize hx' : a.eval x = x' at hrx
  cases hrx
  cases hrg with
  | func _ _ _ fs' _ cs' k1 k2 =>
    cases k1
    cases k2
    have hdef : Extern.BytealgMakeNoZero.makeNoZero #[3] #[t] #[.int .i64 n] =
        (do
          let .slice elem ← underlying t | stuck "bytealg.MakeNoZero: slice type expected"
          if (n : Int) < 0 || (n : Int) > 2 ^ 48 then runtimePanic (.error "makeslice: len out of range")
          let cap ← choose (.appendCap (n : Int).toNat 0 elem)
          askRoom cap
          let bytes ← choose (.extern "internal/bytealg.MakeNoZero.bytes" 0)
          let a ← newRow elem (Extern.BytealgMakeNoZero.digits cap bytes #[])
          Pure.pure (Value.slice (some a) (n : Int).toNat cap)) := rfl
    obtain ⟨gc, hgc⟩ : ∃ gc, gc = grownCap w n 0 e := ⟨_, rfl⟩
    have hge : n ≤ gc := by rw [hgc]; simpa using grownCap_ge w n 0 e
    obtain ⟨by', hby⟩ : ∃ by', by' = (Question.extern "internal/bytealg.MakeNoZero.bytes" 0).cut (w.tape (w.drawn + 1) (.extern "internal/bytealg.MakeNoZero.bytes" 0)) := ⟨_, rfl⟩
    obtain ⟨ys, hy1, hy2⟩ := digits_ints gc by' #[] [] rfl
    rw [List.nil_append] at hy1
    have hsz : (Extern.BytealgMakeNoZero.digits gc by' #[]).size = gc := by rw [← Array.length_toList, hy1, ints_length, hy2]
    have hrun1 : (Extern.BytealgMakeNoZero.makeNoZero #[3] #[t] #[.int .i64 n]).run P w = .ok (.slice (some ⟨w.heap.size, 0, none⟩) n gc) (w.drew.drew.alloc (.cells (Extern.BytealgMakeNoZero.digits gc by' #[]) e)) := by
      have q1 : ¬ (n : Int) < 0 := by omega
      have q2 : ¬ (281474976710656 : Int) < (n : Int) := by omega
      rw [hdef, hgc, hby]
      simp [run_underlying ht, q1, q2, Question.forced, newRow, grownCap]
    have hrun : (execOp a.eval o).run P w = .ok (.value (.slice (some ⟨w.heap.size, 0, none⟩) n gc)) (w.drew.drew.alloc (.cells (Extern.BytealgMakeNoZero.digits gc by' #[]) e)) := by
      simp [execOp, ho, resolve, hz, hx', Deferred.ofValue, invoke, callFunc, run_program, hf, hb, show ¬ fn.name = "runtime.NumGoroutine" from by simpa using hnm, h1, h2, hrun1]
    unfold Oper.wp
    rw [hrun]
    let l : Loc := ⟨w.heap.size, 0, gc, 1⟩
    have hnn : ι M.length = none := hm.dom _ (Nat.le_refl _)
    have hle := Inj.upd_le (l := l) hnn
    have hyt : (ys.take n).length = n := by rw [List.length_take]; omega
    have hX' : MRel ι N0 M w.drew.drew := ⟨fun b B l hb hl => (hm.blk b B l hb hl).keep (fun _ _ h => h) fun _ => rfl, hm.dom, hm.inj, hm.base⟩
    have hM : MRel (ι.upd M.length l) N0 (M ++ [.row true 1 (ints .u8 (ys.take n))]) (w.drew.drew.alloc (.cells (Extern.BytealgMakeNoZero.digits gc by' #[]) e)) := by
      refine (hX'.push (.row true 1 (ints .u8 (ys.take n)))).lay (b := M.length) (B := .row true 1 (ints .u8 (ys.take n))) (by simp) hnn rfl ?_
      refine ⟨hX'.base, rfl, _, e, alloc_get w.drew.drew _, ?_, Nat.le_of_eq hsz.symm, ?_⟩
      · show 0 + (ints .u8 (ys.take n)).length ≤ _
        rw [ints_length, hyt]; simp only [l]; omega
      · intro j u hj
        refine ⟨u, ?_, ?_⟩
        · have : (ints .u8 ys)[j]? = some u := by
            rw [← ints_take, List.getElem?_take] at hj
            split at hj
            · exact hj
            · cases hj
          rw [← hy1] at this
          simpa [l] using this
        · have : u ∈ ints .u8 (ys.take n) := List.mem_of_getElem? hj
          obtain ⟨i, _, rfl⟩ := List.mem_map.1 this
          exact .int _ _
    refine hc (.slice (some ⟨M.length, 0, none⟩) n (capLow + n)) _ (M ++ [.row true 1 (ints .u8 (ys.take n))]) (ι.upd M.length l) _ ?_ hM ⟨Inj.upd_le hnn, fun x hx hn' => ⟨by unfold Inj.upd; rw [if_neg (by omega)]; exact hn', List.getElem?_append_left hx⟩, by simp, (((Low.refl _ _).drew).drew).alloc hm.base _⟩ (hk _ hyt)
    refine VRel.slice M.length 0 n _ gc l _ (by simp [Inj.upd]) hge (.inr ⟨by omega, by omega⟩) (.inr ⟨rfl, ?_⟩)
    simp [l]
end
def mkK (P : Program) (ty : TypeId) (x y : Value) (C : Nat → Nat → Nat → List Value → Prop) : Prop := ∃ e s z bt k k' l n, P.underlying ty = some (.slice e) ∧ tsz P e = some s ∧ 0 < s ∧ tzero P e = some z ∧ z.length = s ∧ tby P e = some bt ∧
  x = .int k ((l : Nat) : Int) ∧ y = .int k' ((n : Nat) : Int) ∧ l ≤ n ∧ n * bt ≤ 140737488355328 ∧ n ≤ 140737488355328 ∧ C l n s (zerosOf z n)
theorem zerosOf_one (v : Value) (n : Nat) : zerosOf [v] n = List.replicate n v := by
  unfold zerosOf
  induction n with
  | zero => rfl
  | succ n ih => simp [List.replicate_succ, ih]
theorem mkK.ints {P : Program} {ty e bt : Nat} {k k1 k2 : IntKind} {C : Nat → Nat → Nat → List Value → Prop} {l n : Nat} (hu : P.underlying ty = some (.slice e)) (hs : tsz P e = some 1) (hz : tzero P e = some [.int k 0]) (hb : tby P e = some bt)
    (hl : l ≤ n) (hn : n * bt ≤ 140737488355328) (hn2 : n ≤ 140737488355328) (h : C l n 1 (Ax.ints k (List.replicate n 0))) : mkK P ty (.int k1 l) (.int k2 n) C := by
  refine ⟨e, 1, [.int k 0], bt, k1, k2, l, n, hu, hs, by omega, hz, rfl, hb, rfl, rfl, hl, hn, hn2, ?_⟩
  rw [zerosOf_one]
  have : Ax.ints k (List.replicate n 0) = List.replicate n (.int k 0) := by simp [Ax.ints]
  rw [this] at h
  exact h
def cpK (P : Program) (ty ty' : TypeId) (x y : Value) (M : Mem) (C : Value → Mem → Prop) : Prop := ∃ e e' b off n c cc ds, P.underlying ty = some (.slice e) ∧ P.underlying ty' = some (.slice e') ∧ tsz P e = some 1 ∧ x = .slice (some ⟨b, off, none⟩) n c ∧ M[b]? = some (.row true 1 cc) ∧
  Sl M y 1 ds ∧ ds.length ≤ n ∧ 0 < ds.length ∧ off + ds.length ≤ cc.length ∧ C (.int .i64 ds.length) (M.set b (.row true 1 (spl cc off ds)))
section
variable {P : Program} {ops : Array Oper} {todo done : List Nat} {Ls : List (Nat × LP)} {rest : List Oper} {K : List Value → Mem → Prop} {t : List Value} {M : Mem}
variable {i : Nat} {dst : Option Tmp} {type : TypeId} {pos : String} {after : Array Edge}
theorem AL.mk {ty : TypeId} {x y : Operand} (hok : okOpds ⟨dst, .makeSlice ty x y, type, pos, after, none⟩ = true)
    (h : mkK P ty (ev t x) (ev t y) fun l n s cs => AL P ops rest K (putT t dst (.slice (some ⟨M.length, 0, none⟩) l n)) (M ++ [.row true s cs])) : AL P ops (⟨dst, .makeSlice ty x y, type, pos, after, none⟩ :: rest) K t M := by
  obtain ⟨e, s, z, bt, k, k', l, n, hu, hs, h0, hz, hzl, hb, hx, hy, hl, hn, hn2, hc⟩ := h
  exact AL.op hok rfl (AOp.fresh (fresh_mk rfl hu hs h0 hz hzl hb hx hy hl hn hn2) hc)
theorem AH.mk {ty : TypeId} {x y : Operand} (hok : okOpds ⟨dst, .makeSlice ty x y, type, pos, after, none⟩ = true)
    (h : mkK P ty (ev t x) (ev t y) fun l n s cs => ADL P ops todo (i :: done) Ls K (putT t dst (.slice (some ⟨M.length, 0, none⟩) l n)) (M ++ [.row true s cs])) : AH P ops dst (.makeSlice ty x y) type pos after none i todo done Ls K t M := fun ho => by
  obtain ⟨e, s, z, bt, k, k', l, n, hu, hs, h0, hz, hzl, hb, hx, hy, hl, hn, hn2, hc⟩ := h
  exact ADL.fr ho rfl hok rfl (fresh_mk rfl hu hs h0 hz hzl hb hx hy hl hn hn2) hc
theorem AL.cp {ty ty' : TypeId} {x y : Operand} (hok : okOpd x = true) (hok' : okOpd y = true)
    (h : cpK P ty ty' (ev t x) (ev t y) M fun v M' => AL P ops rest K (putT t dst v) M') : AL P ops (⟨dst, .call { callee := .builtin .copy, args := ⟨[x, y]⟩, argTypes := ⟨[ty, ty']⟩ }, type, pos, after, none⟩ :: rest) K t M := by
  obtain ⟨e, e', b, off, n, c, cc, ds, hu, hu', hs, hx, hB, hy, hn, h0, hle, hc⟩ := h
  exact AL.op (by simp [okOpds, calmOp, Op.operands, Call.operands, hok, hok']) rfl (AOp.copy rfl hu hu' hs hx hB hy hn h0 hle hc)
theorem AL.mz {g x : Operand} {tys : Array TypeId} {ty e : TypeId} (hok : okOpd g = true) (hok' : okOpd x = true) {f : FuncId} (hg : ev t g = .func (.func f) #[] #[]) {fn : Func} (hf : P.funcs[f]? = some fn) (hb : fn.body = none) (hnm : (fn.name == "runtime.NumGoroutine") = false)
    (h1 : Extern.findNext fn = none) (h2 : Extern.find fn = some (Extern.BytealgMakeNoZero.makeNoZero #[3] #[ty])) (ht : P.underlying ty = some (.slice e)) (hs : tsz P e = some 1) {n : Nat} (hx : ev t x = .int .i64 n) (h0 : 0 < n) (hn : n ≤ 1000000)
    (hk : ∀ xs : List Int, xs.length = n → AL P ops rest K (putT t dst (.slice (some ⟨M.length, 0, none⟩) n (capLow + n))) (M ++ [.row true 1 (ints .u8 xs)])) : AL P ops (⟨dst, .call { callee := .value g, args := ⟨[x]⟩, argTypes := tys }, type, pos, after, none⟩ :: rest) K t M :=
  AL.op (by simp [okOpds, calmOp, Op.operands, Call.operands, hok, hok']) rfl (AOp.noZero rfl hg hf hb hnm h1 h2 ht hs hx h0 hn hk)
theorem AH.cpN {ty ty' : TypeId} {x y : Operand} (hok : okOpd x = true) (hok' : okOpd y = true) (hL : (Ls.map Prod.fst).all (fun x => bef ops x i) = true)
    (h : cpK P ty ty' (ev t x) (ev t y) M fun v M' => ADL P ops todo (i :: done) [] K (putT t dst v) M') : AH P ops dst (.call { callee := .builtin .copy, args := ⟨[x, y]⟩, argTypes := ⟨[ty, ty']⟩ }) type pos after none i todo done Ls K t M := fun ho => by
  obtain ⟨e, e', b, off, n, c, cc, ds, hu, hu', hs, hx, hB, hy, hn, h0, hle, hc⟩ := h
  refine ADL.ef ho rfl (by simp [okOpds, calmOp, Op.operands, Call.operands, hok, hok']) rfl ((AOp.copy (K := fun v M' => ADL P ops todo (i :: done) [] K (putT t dst v) M') rfl hu hu' hs hx hB hy hn h0 hle hc).mono fun v M' h => ?_)
  rw [filt_none hL]
  exact ⟨by simp, h⟩
end

end Go.Proofs.Ytbdejnnbpdgjlaa.Ax

namespace Go.Proofs.Ytbdejnnbpdgjlaa.Ax
open Go Go.RowKit
open Nat renaming reduceAdd → ν1, reduceMul → ν2, reduceLeDiff → ν3, reduceLT → ν4, reduceSub → ν5
open Int renaming reduceNe → ζ1, reduceEq → ζ2, reduceLE → ζ3, reduceLT → ζ4, reduceToNat → ζ5
set_option linter.unusedVariables false
set_option linter.unusedSimpArgs false
set_option maxRecDepth 100000
set_option maxHeartbeats 20000000
attribute [local irreducible] thenA blockA scopeA retA AL AW AD ADL AH clrK CallA apure aload bload appK ptrK fnK ares szOk planOk okOps
theorem a99_Ms1 {g n : Prop} (k : n) (h : n → g := by first | exact AL.mk rfl | exact AL.cp rfl rfl) : g := h k
theorem a87_Ms1 {g n : Prop} (k : n) (h : n → g := by first | exact AL.mk rfl | exact AL.cp rfl rfl) : g := h k
theorem d52_Ms1 {g n : Prop} (k : n) (h : n → g := by first | exact AW.dr (id := 1) (by rfl) [0, 1, 2, 3, 4, 5, 6, 7, 8, 9, 10] (by kernel_rfl) (by kernel_rfl)) : g := h k
theorem a52_Ms1 {g n : Prop} (k : n) (h : n → g := by first | exact AL.mk rfl | exact AL.cp rfl rfl | exact AH.mk rfl | exact AH.cpN rfl rfl (by kernel_rfl)) : g := h k
theorem d119_Ms1 {g n : Prop} (k : n) (h : n → g := by first | exact AW.dr (id := 1) (by rfl) [0, 4, 5, 1, 2, 3, 6, 7, 8, 9] (by kernel_rfl) (by kernel_rfl)) : g := h k
theorem a119_Ms1 {g n : Prop} (k : n) (h : n → g := by first | exact AL.mk rfl | exact AL.cp rfl rfl | exact AH.ca (dst := some 4) rfl | exact AH.caN (dst := some 9) rfl (by kernel_rfl) | exact AH.mk rfl | exact AH.cpN rfl rfl (by kernel_rfl)) : g := h k
theorem a85_Ms1 {g n : Prop} (k : n) (h : n → g := by first | exact AL.mk rfl | exact AL.cp rfl rfl) : g := h k
theorem a82_Ms1 {g n : Prop} (k : n) (h : n → g := by first | exact AL.mk rfl | exact AL.cp rfl rfl) : g := h k
theorem a83_Ms1 {g n : Prop} (k : n) (h : n → g := by first | exact AL.mk rfl | exact AL.cp rfl rfl) : g := h k
theorem a84_Ms1 {g n : Prop} (k : n) (h : n → g := by first | exact AL.mk rfl | exact AL.cp rfl rfl) : g := h k
theorem or64r {x y : Int} (hx : isByte x) (hy : isByte y) : bits .i64 (BitVec.ofInt IntKind.i64.bits (y * 256) ||| BitVec.ofInt IntKind.i64.bits x) = .int .i64 (y * 256 + x) := by
  rw [BitVec.or_comm]; exact or64 hx hy
theorem octet_spec (n : Int) (M : Mem)  : CallA Try.prog 99 [.int .i64 n] M fun r M' => M' = M ∧ r = .bool (decide (0 ≤ n ∧ n ≤ 255)) := by
  (refine CallA.of_body Try.func99 rfl (by rfl) ?_; simp only [Try.ntmps99, List.length_cons, List.length_nil, List.replicate, List.cons_append, List.nil_append, Nat.reduceSub, Nat.reduceAdd])
  (repeat (first | refine st ?_ | refine σa ?_ | ((first | refine a99_Ms1 ?_ | refine σb ?_); simp (disch := omega) only [push_cast, ↓reduceIte, reduceCtorEq, ν1, ν2, ν3, ν4, ν5, ζ1, ζ2, ζ3, ζ4, ζ5, wm_u8, w_i64])))
  ((first | refine retA.ret (by rfl) ?_ | refine retA.normal (by rfl) ?_); simp (disch := omega) only [push_cast, ↓reduceIte, reduceCtorEq, Nat.reduceAdd, Nat.reduceMul, Nat.reduceLeDiff, Nat.reduceLT, Nat.reduceSub, Int.reduceNe, Int.reduceEq, Int.reduceLE, Int.reduceLT, Int.reduceToNat])
  refine congrArg _ ?_
  simp only [decide_eq_decide]
  omega
theorem short_spec (n : Int) (M : Mem) (h : u32 n) : CallA Try.prog 87 [.int .u32 n] M fun r M' => M' = M ∧ r = .int .u16 (shortP n) := by
  have h1 := h.1
  have h2 := h.2
  (refine CallA.of_body Try.func87 rfl (by rfl) ?_; simp only [Try.ntmps87, List.length_cons, List.length_nil, List.replicate, List.cons_append, List.nil_append, Nat.reduceSub, Nat.reduceAdd])
  by_cases c : n > 65535
  · have d : decide (n = n % 65536) = false := decide_eq_false (by omega)
    (repeat (first | refine st ?_ | refine σa ?_ | ((first | refine a87_Ms1 ?_ | refine σb ?_); simp (disch := omega) only [push_cast, ↓reduceIte, reduceCtorEq, ν1, ν2, ν3, ν4, ν5, ζ1, ζ2, ζ3, ζ4, ζ5, wm_u16, w_u32, d, Bool.not_false])))
    ((first | refine retA.ret (by rfl) ?_ | refine retA.normal (by rfl) ?_); simp (disch := omega) only [push_cast, ↓reduceIte, reduceCtorEq, Nat.reduceAdd, Nat.reduceMul, Nat.reduceLeDiff, Nat.reduceLT, Nat.reduceSub, Int.reduceNe, Int.reduceEq, Int.reduceLE, Int.reduceLT, Int.reduceToNat])
    unfold shortP; rw [if_pos c]
  · have d : decide (n = n % 65536) = true := decide_eq_true (by omega)
    have e : n % 65536 = n := by omega
    (repeat (first | refine st ?_ | refine σa ?_ | ((first | refine a87_Ms1 ?_ | refine σb ?_); simp (disch := omega) only [push_cast, ↓reduceIte, reduceCtorEq, ν1, ν2, ν3, ν4, ν5, ζ1, ζ2, ζ3, ζ4, ζ5, wm_u16, w_u32, d, e, Bool.not_true])))
    ((first | refine retA.ret (by rfl) ?_ | refine retA.normal (by rfl) ?_); simp (disch := omega) only [push_cast, ↓reduceIte, reduceCtorEq, Nat.reduceAdd, Nat.reduceMul, Nat.reduceLeDiff, Nat.reduceLT, Nat.reduceSub, Int.reduceNe, Int.reduceEq, Int.reduceLE, Int.reduceLT, Int.reduceToNat])
    unfold shortP; rw [if_neg c]
theorem pair_spec (v : Value) (xs : List Int) (M : Mem) (hv : Sl M v 1 (ints .u8 xs)) (hx : 2 ≤ xs.length) (hb : ∀ x ∈ xs, 0 ≤ x ∧ x ≤ 255) : CallA Try.prog 52 [v] M fun r M' => M' = M ∧ r = .int .i64 (pairAt xs 0) := by
  have hs := hv.isSl
  have hn := hv.lnI
  have hld := fun i h1 => hv.ldN (P := Try.prog) (ty := 5) (i := i) (by kernel_rfl) h1
  have hl0 := fun h1 => hv.ld0 (P := Try.prog) (ty := 5) (by kernel_rfl) h1
  have b0 := getD_byte hb 0
  have b1 := getD_byte hb 1
  have b01 := b0.1
  have b02 := b0.2
  have b11 := b1.1
  have b12 := b1.2
  have or1 := or64r b1 b0
  have s8 : (2 : Int) ^ min 8 IntKind.i64.bits = 256 := by decide
  (refine CallA.of_body Try.func52 rfl (by rfl) ?_; simp only [Try.ntmps52, List.length_cons, List.length_nil, List.replicate, List.cons_append, List.nil_append, Nat.reduceSub, Nat.reduceAdd])
  (repeat (first | refine st ?_ | refine σa ?_ | refine d52_Ms1 ?_ | ((first | refine a52_Ms1 ?_ | refine σb ?_ | refine σc ?_); simp (disch := omega) only [push_cast, ↓reduceIte, reduceCtorEq, ν1, ν2, ν3, ν4, ν5, ζ1, ζ2, ζ3, ζ4, ζ5, hs, hn, hld, hl0, w_i64, s8, or1])))
  ((first | refine retA.ret (by rfl) ?_ | refine retA.normal (by rfl) ?_); simp (disch := omega) only [push_cast, ↓reduceIte, reduceCtorEq, Nat.reduceAdd, Nat.reduceMul, Nat.reduceLeDiff, Nat.reduceLT, Nat.reduceSub, Int.reduceNe, Int.reduceEq, Int.reduceLE, Int.reduceLT, Int.reduceToNat])
  rfl
theorem quad_spec (v : Value) (xs : List Int) (M : Mem) (hv : Sl M v 1 (ints .u8 xs)) (hx : 4 ≤ xs.length) (hb : ∀ x ∈ xs, 0 ≤ x ∧ x ≤ 255) : CallA Try.prog 119 [v] M fun r M' => M' = M ∧ r = .int .u32 (wordAt xs 0) := by
  have hs := hv.isSl
  have hn := hv.lnI
  obtain ⟨w, hw, p⟩ := hv.pcFrom 2 (by omega)
  have hw' : aslice v 1 (some (.int .i64 2)) none none = some w := hw
  have b0 := getD_byte hb 0
  have b1 := getD_byte hb 1
  have b2 := getD_byte hb 2
  have b3 := getD_byte hb 3
  unfold isByte at b0 b1 b2 b3
  have e2 : pairAt (xs.drop 2) 0 = pairAt xs 2 := by unfold pairAt; simp [List.getD_eq_getElem?_getD]
  have hsz := hv.sz
  have s16 : (2 : Int) ^ min 16 IntKind.u32.bits = 65536 := by decide
  have q0 : 0 ≤ pairAt xs 0 ∧ pairAt xs 0 ≤ 65535 := by show 0 ≤ xs.getD 0 0 * 256 + xs.getD 1 0 ∧ xs.getD 0 0 * 256 + xs.getD 1 0 ≤ 65535; omega
  have q2 : 0 ≤ pairAt xs 2 ∧ pairAt xs 2 ≤ 65535 := by show 0 ≤ xs.getD 2 0 * 256 + xs.getD 3 0 ∧ xs.getD 2 0 * 256 + xs.getD 3 0 ≤ 65535; omega
  have or1 := or32 16 (pairAt xs 0 * 65536) (pairAt xs 2) (by omega) (by omega) q2.1 (by omega) (by omega)
  have ew : wordAt xs 0 = pairAt xs 0 * 65536 + pairAt xs 2 := by show xs.getD 0 0 * 16777216 + xs.getD 1 0 * 65536 + xs.getD 2 0 * 256 + xs.getD 3 0 = (xs.getD 0 0 * 256 + xs.getD 1 0) * 65536 + (xs.getD 2 0 * 256 + xs.getD 3 0); omega
  rw [ew]
  obtain ⟨a, ha⟩ : ∃ a, a = pairAt xs 0 := ⟨_, rfl⟩
  rw [← ha] at q0 or1 ⊢
  obtain ⟨b, hb2⟩ : ∃ b, b = pairAt xs 2 := ⟨_, rfl⟩
  rw [← hb2] at q2 or1 e2 ⊢
  have q01 := q0.1
  have q02 := q0.2
  have q21 := q2.1
  have q22 := q2.2
  (refine CallA.of_body Try.func119 rfl (by rfl) ?_; simp only [Try.ntmps119, List.length_cons, List.length_nil, List.replicate, List.cons_append, List.nil_append, Nat.reduceSub, Nat.reduceAdd])
  have hbl := hv.blks
  (repeat (first | refine st ?_ | refine σa ?_ | refine d119_Ms1 ?_ | ((first | refine a119_Ms1 ?_ | refine σb ?_ | refine σc ?_); simp (disch := omega) only [push_cast, ↓reduceIte, reduceCtorEq, ν1, ν2, ν3, ν4, ν5, ζ1, ζ2, ζ3, ζ4, ζ5, hs, hw', hsz, hbl, Option.map_none])))
  refine (pair_spec v xs M hv (by omega) hb).mono ?_
  rintro r M2 ⟨rfl, rfl⟩
  refine ⟨Fr.refl _, ?_⟩
  rw [← ha]
  (repeat (first | refine st ?_ | refine σa ?_ | refine d119_Ms1 ?_ | ((first | refine a119_Ms1 ?_ | refine σb ?_ | refine σc ?_); simp (disch := omega) only [push_cast, ↓reduceIte, reduceCtorEq, ν1, ν2, ν3, ν4, ν5, ζ1, ζ2, ζ3, ζ4, ζ5, w_u32])))
  refine (pair_spec w _ M2 p.sl (by rw [List.length_drop]; omega) (fun x h => hb x (List.mem_of_mem_drop h))).mono ?_
  rintro r M3 ⟨rfl, rfl⟩
  rw [e2]
  (repeat (first | refine st ?_ | refine σa ?_ | refine d119_Ms1 ?_ | ((first | refine a119_Ms1 ?_ | refine σb ?_ | refine σc ?_); simp (disch := omega) only [push_cast, ↓reduceIte, reduceCtorEq, ν1, ν2, ν3, ν4, ν5, ζ1, ζ2, ζ3, ζ4, ζ5, w_u32, s16, or1])))
  ((first | refine retA.ret (by rfl) ?_ | refine retA.normal (by rfl) ?_); simp (disch := omega) only [push_cast, ↓reduceIte, reduceCtorEq, Nat.reduceAdd, Nat.reduceMul, Nat.reduceLeDiff, Nat.reduceLT, Nat.reduceSub, Int.reduceNe, Int.reduceEq, Int.reduceLE, Int.reduceLT, Int.reduceToNat])
/-- A reader at p: what is left, whether it was short. -/
def RdA (M : Mem) (p lo : Nat) (xs : List Int) (sh : Bool) : Prop := ∃ v, At M p (.box [v, .bool sh]) ∧ Sl M v 1 (ints .u8 xs) ∧ lo ≤ p ∧ ∀ b ∈ blkOf v, b < lo
def takeL (n : Nat) (xs : List Int) : List Int := if xs.length < n then List.replicate n 0 else xs.take n
theorem rtake_spec (p lo n : Nat) (xs : List Int) (sh : Bool) (M : Mem) (hr : RdA M p lo xs sh) (hn : n ≤ 100000) : CallA Try.prog 85 [.pointer (some ⟨p, 0, none⟩), .int .i64 n] M fun r M' => Fr M M' [p] ∧ RdA M' p lo (xs.drop n) (sh || decide (xs.length < n)) ∧ Sl M' r 1 (ints .u8 (takeL n xs)) ∧ (∀ b ∈ blkOf r, b < lo ∨ M.length ≤ b) := by
  obtain ⟨v, hat, hv, hlo, hvl⟩ := hr
  have hp : p ∉ blkOf v := fun h => by have := hvl p h; omega
  have hs := hv.isSl
  have hl := hv.lnI
  (refine CallA.of_body Try.func85 rfl (by rfl) ?_; simp only [Try.ntmps85, List.length_cons, List.length_nil, List.replicate, List.cons_append, List.nil_append, Nat.reduceSub, Nat.reduceAdd])
  by_cases c : xs.length < n
  · have d : decide ((xs.length : Int) < n) = true := decide_eq_true (by omega)
    rw [decide_eq_true c, Bool.or_true]
    have g2 := (hat.set (.box [v, .bool true])).get
    (repeat (first | refine st ?_ | refine σa ?_ | ((first | refine a85_Ms1 ?_ | refine σb ?_); simp (disch := omega) only [push_cast, ↓reduceIte, reduceCtorEq, ν1, ν2, ν3, ν4, ν5, ζ1, ζ2, ζ3, ζ4, ζ5, hs, hl, d, hat.ld, hat.get, hat.same, g2, List.drop_nil, List.append_nil, boxE])))
    refine mkK.ints (P := Try.prog) (e := 5) (bt := 1) (k := .u8) (by kernel_rfl) (by kernel_rfl) (by kernel_rfl) (by kernel_rfl) (Nat.le_refl _) (by omega) (by omega) ?_
    (repeat (first | refine st ?_ | refine σa ?_ | ((first | refine a85_Ms1 ?_ | refine σb ?_); simp (disch := omega) only [push_cast, ↓reduceIte, reduceCtorEq, ν1, ν2, ν3, ν4, ν5, ζ1, ζ2, ζ3, ζ4, ζ5])))
    ((first | refine retA.ret (by rfl) ?_ | refine retA.normal (by rfl) ?_); simp (disch := omega) only [push_cast, ↓reduceIte, reduceCtorEq, Nat.reduceAdd, Nat.reduceMul, Nat.reduceLeDiff, Nat.reduceLT, Nat.reduceSub, Int.reduceNe, Int.reduceEq, Int.reduceLE, Int.reduceLT, Int.reduceToNat])
    have A2 : At (M.set p (.box [.slice none 0 0, .bool true])) p (.box [.slice none 0 0, .bool true]) := hat.set _
    have f1 := Fr.set M p (.box [.slice none 0 0, .bool true])
    have hlen : (M.set p (.box [.slice none 0 0, .bool true])).length = M.length := by simp
    generalize M.set p (.box [.slice none 0 0, .bool true]) = M1 at *
    have r := New.row M1 (s := 1) (n := n) (cs := ints .u8 (List.replicate n 0)) (by omega) (by rw [ints_length]; simp) (ints_one _ _) (by show n < 4611686018427387904; omega)
    have f2 := Fr.push M1 (.row true 1 (ints .u8 (List.replicate n 0)))
    have hpl := hat.lt
    rw [hlen] at r
    refine ⟨f1.tr' f2, ⟨.slice none 0 0, A2.keep f2 (by simp), ?_, hlo, by simp [blkOf]⟩, by unfold takeL; rw [if_pos c]; exact r.sl, fun b h => .inr ?_⟩
    · rw [List.drop_eq_nil_of_le (by omega)]; exact Sl.nil _ (by omega)
    · have : b = M.length := by simp [blkOf] at h; exact h.2
      omega
  · have d : decide ((xs.length : Int) < n) = false := decide_eq_false (by omega)
    obtain ⟨w1, hw1, p1⟩ := hv.pcTo n (by omega)
    obtain ⟨w2, hw2, p2⟩ := hv.pcFrom n (by omega)
    have hsz := hv.sz
    have hbl := hv.blks
    have c2 := isSl_cl p2.sl.isSl
    have o2 := isSl_one p2.sl.isSl
    simp only [Value.oneCell'] at o2
    (repeat (first | refine st ?_ | refine σa ?_ | ((first | refine a85_Ms1 ?_ | refine σb ?_); simp (disch := omega) only [push_cast, ↓reduceIte, reduceCtorEq, ν1, ν2, ν3, ν4, ν5, ζ1, ζ2, ζ3, ζ4, ζ5, hs, hl, d, hat.ld, hat.get, hat.same, hw1, hw2, hsz, hbl, c2, o2, Option.map_none, List.drop_nil, List.append_nil, boxE])))
    ((first | refine retA.ret (by rfl) ?_ | refine retA.normal (by rfl) ?_); simp (disch := omega) only [push_cast, ↓reduceIte, reduceCtorEq, Nat.reduceAdd, Nat.reduceMul, Nat.reduceLeDiff, Nat.reduceLT, Nat.reduceSub, Int.reduceNe, Int.reduceEq, Int.reduceLE, Int.reduceLT, Int.reduceToNat])
    have f := Fr.set M p (.box [w2, .bool sh])
    have e : takeL n xs = xs.take n := by unfold takeL; rw [if_neg c]
    rw [e, decide_eq_false c, Bool.or_false]
    have q : ∀ b ∈ blkOf v, b ∉ [p] := fun b h h' => hp (by simp at h'; rw [← h']; exact h)
    exact ⟨f, ⟨w2, hat.set _, (p2.keep f q).sl, hlo, fun b h => hvl b (p2.blk b h)⟩, (p1.keep f q).sl, fun b h => .inl (hvl b (p1.blk b h))⟩
theorem takeL_length (n : Nat) (xs : List Int) : (takeL n xs).length = n := by
  unfold takeL
  split
  · simp
  · rw [List.length_take]; omega
theorem takeL_byte {n : Nat} {xs : List Int} (hb : ∀ x ∈ xs, 0 ≤ x ∧ x ≤ 255) : ∀ x ∈ takeL n xs, 0 ≤ x ∧ x ≤ 255 := by
  intro x hx
  unfold takeL at hx
  split at hx
  · rw [(List.mem_replicate.1 hx).2]; omega
  · exact hb x (List.mem_of_mem_take hx)
theorem roct_spec (p lo : Nat) (xs : List Int) (sh : Bool) (M : Mem) (hr : RdA M p lo xs sh) (hb : ∀ x ∈ xs, 0 ≤ x ∧ x ≤ 255) : CallA Try.prog 82 [.pointer (some ⟨p, 0, none⟩)] M fun r M' => Fr M M' [p] ∧ RdA M' p lo (xs.drop 1) (sh || decide (xs.length < 1)) ∧ r = .int .i64 (xs.getD 0 0) := by
  (refine CallA.of_body Try.func82 rfl (by rfl) ?_; simp only [Try.ntmps82, List.length_cons, List.length_nil, List.replicate, List.cons_append, List.nil_append, Nat.reduceSub, Nat.reduceAdd])
  (repeat (first | refine st ?_ | refine σa ?_ | ((first | refine a82_Ms1 ?_ | refine σb ?_); simp (disch := omega) only [push_cast, ↓reduceIte, reduceCtorEq, ν1, ν2, ν3, ν4, ν5, ζ1, ζ2, ζ3, ζ4, ζ5])))
  refine (rtake_spec p lo 1 xs sh M hr (by omega)).mono ?_
  rintro r M2 ⟨hF, hR, hS, hp⟩
  have hs := hS.isSl
  have hn := hS.lnI
  rw [takeL_length] at hn
  have hl0 := hS.ld0 (P := Try.prog) (ty := 5) (by kernel_rfl) (by rw [takeL_length]; omega)
  have e : (takeL 1 xs).getD 0 0 = xs.getD 0 0 := by
    unfold takeL
    split
    · cases xs with
      | nil => rfl
      | cons x xs => rename_i h; simp at h
    · cases xs with
      | nil => rename_i h; simp at h
      | cons x xs => rfl
  have b0 := getD_byte hb 0
  have b01 := b0.1
  have b02 := b0.2
  rw [e] at hl0
  (repeat (first | refine st ?_ | refine σa ?_ | ((first | refine a82_Ms1 ?_ | refine σb ?_); simp (disch := omega) only [push_cast, ↓reduceIte, reduceCtorEq, ν1, ν2, ν3, ν4, ν5, ζ1, ζ2, ζ3, ζ4, ζ5, hs, hn, hl0, w_i64])))
  ((first | refine retA.ret (by rfl) ?_ | refine retA.normal (by rfl) ?_); simp (disch := omega) only [push_cast, ↓reduceIte, reduceCtorEq, Nat.reduceAdd, Nat.reduceMul, Nat.reduceLeDiff, Nat.reduceLT, Nat.reduceSub, Int.reduceNe, Int.reduceEq, Int.reduceLE, Int.reduceLT, Int.reduceToNat])
  exact ⟨hF, hR⟩
theorem rtwo_spec (p lo : Nat) (xs : List Int) (sh : Bool) (M : Mem) (hr : RdA M p lo xs sh) (hb : ∀ x ∈ xs, 0 ≤ x ∧ x ≤ 255) : CallA Try.prog 83 [.pointer (some ⟨p, 0, none⟩)] M fun r M' => Fr M M' [p] ∧ RdA M' p lo (xs.drop 2) (sh || decide (xs.length < 2)) ∧ r = .int .i64 (pairAt (takeL 2 xs) 0) := by
  (refine CallA.of_body Try.func83 rfl (by rfl) ?_; simp only [Try.ntmps83, List.length_cons, List.length_nil, List.replicate, List.cons_append, List.nil_append, Nat.reduceSub, Nat.reduceAdd])
  (repeat (first | refine st ?_ | refine σa ?_ | ((first | refine a83_Ms1 ?_ | refine σb ?_); simp (disch := omega) only [push_cast, ↓reduceIte, reduceCtorEq, ν1, ν2, ν3, ν4, ν5, ζ1, ζ2, ζ3, ζ4, ζ5])))
  refine (rtake_spec p lo 2 xs sh M hr (by omega)).mono ?_
  rintro r M2 ⟨hF, hR, hS, hp⟩
  (repeat (first | refine st ?_ | refine σa ?_ | ((first | refine a83_Ms1 ?_ | refine σb ?_); simp (disch := omega) only [push_cast, ↓reduceIte, reduceCtorEq, ν1, ν2, ν3, ν4, ν5, ζ1, ζ2, ζ3, ζ4, ζ5])))
  refine (pair_spec r _ M2 hS (by rw [takeL_length]; omega) (takeL_byte hb)).mono ?_
  rintro r M3 ⟨rfl, rfl⟩
  (repeat (first | refine st ?_ | refine σa ?_ | ((first | refine a83_Ms1 ?_ | refine σb ?_); simp (disch := omega) only [push_cast, ↓reduceIte, reduceCtorEq, ν1, ν2, ν3, ν4, ν5, ζ1, ζ2, ζ3, ζ4, ζ5])))
  ((first | refine retA.ret (by rfl) ?_ | refine retA.normal (by rfl) ?_); simp (disch := omega) only [push_cast, ↓reduceIte, reduceCtorEq, Nat.reduceAdd, Nat.reduceMul, Nat.reduceLeDiff, Nat.reduceLT, Nat.reduceSub, Int.reduceNe, Int.reduceEq, Int.reduceLE, Int.reduceLT, Int.reduceToNat])
  exact ⟨hF, hR⟩
theorem rfour_spec (p lo : Nat) (xs : List Int) (sh : Bool) (M : Mem) (hr : RdA M p lo xs sh) (hb : ∀ x ∈ xs, 0 ≤ x ∧ x ≤ 255) : CallA Try.prog 84 [.pointer (some ⟨p, 0, none⟩)] M fun r M' => Fr M M' [p] ∧ RdA M' p lo (xs.drop 4) (sh || decide (xs.length < 4)) ∧ r = .int .u32 (wordAt (takeL 4 xs) 0) := by
  (refine CallA.of_body Try.func84 rfl (by rfl) ?_; simp only [Try.ntmps84, List.length_cons, List.length_nil, List.replicate, List.cons_append, List.nil_append, Nat.reduceSub, Nat.reduceAdd])
  (repeat (first | refine st ?_ | refine σa ?_ | ((first | refine a84_Ms1 ?_ | refine σb ?_); simp (disch := omega) only [push_cast, ↓reduceIte, reduceCtorEq, ν1, ν2, ν3, ν4, ν5, ζ1, ζ2, ζ3, ζ4, ζ5])))
  refine (rtake_spec p lo 4 xs sh M hr (by omega)).mono ?_
  rintro r M2 ⟨hF, hR, hS, hp⟩
  (repeat (first | refine st ?_ | refine σa ?_ | ((first | refine a84_Ms1 ?_ | refine σb ?_); simp (disch := omega) only [push_cast, ↓reduceIte, reduceCtorEq, ν1, ν2, ν3, ν4, ν5, ζ1, ζ2, ζ3, ζ4, ζ5])))
  refine (quad_spec r _ M2 hS (by rw [takeL_length]; omega) (takeL_byte hb)).mono ?_
  rintro r M3 ⟨rfl, rfl⟩
  (repeat (first | refine st ?_ | refine σa ?_ | ((first | refine a84_Ms1 ?_ | refine σb ?_); simp (disch := omega) only [push_cast, ↓reduceIte, reduceCtorEq, ν1, ν2, ν3, ν4, ν5, ζ1, ζ2, ζ3, ζ4, ζ5])))
  ((first | refine retA.ret (by rfl) ?_ | refine retA.normal (by rfl) ?_); simp (disch := omega) only [push_cast, ↓reduceIte, reduceCtorEq, Nat.reduceAdd, Nat.reduceMul, Nat.reduceLeDiff, Nat.reduceLT, Nat.reduceSub, Int.reduceNe, Int.reduceEq, Int.reduceLE, Int.reduceLT, Int.reduceToNat])
  exact ⟨hF, hR⟩

end Go.Proofs.Ytbdejnnbpdgjlaa.Ax
