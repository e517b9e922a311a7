/- Contracts of functions over the abstract machine. No conditions: lemmas alone. -/
import Derived.Test.YtbdejnnbpdgjlaaPeerPiecesLibD
import Derived.Test.YtbdejnnbpdgjlaaPeerPiecesP0
import Derived.Test.YtbdejnnbpdgjlaaPeerPiecesP13
import Derived.Test.YtbdejnnbpdgjlaaPeerPiecesP14
import Derived.Test.YtbdejnnbpdgjlaaPeerPiecesP11
namespace Go.Proofs.Ytbdejnnbpdgjlaa.Ax
open Go Go.RowKit
open Nat renaming reduceAdd → ν1, reduceMul → ν2, reduceLeDiff → ν3, reduceLT → ν4, reduceSub → ν5
open Int renaming reduceNe → ζ1, reduceEq → ζ2, reduceLE → ζ3, reduceLT → ζ4, reduceToNat → ζ5
set_option linter.unusedVariables false
set_option linter.unusedSimpArgs false
set_option maxRecDepth 100000
set_option maxHeartbeats 20000000
attribute [local irreducible] thenA blockA scopeA retA AL AW AD ADL AH clrK CallA apure aload bload appK ptrK fnK ares szOk planOk okOps
structure WrA (M : Mem) (p : Nat) (v : Value) (bs : List Int) : Prop where
 at' : At M p (.box [v])
 own : Own M v 1 (ints .u8 bs)
 no : p ∉ blkOf v
def WrS (M : Mem) (p : Nat) (v : Value) (bs : List Int) (M' : Mem) : Prop := Fr M M' (p :: blkOf v) ∧ ∃ v', WrA M' p v' bs ∧ New M M' v' 1 (ints .u8 bs)
theorem woct_spec (p : Nat) (v : Value) (bs : List Int) (x : Value) (l : List Int) (M : Mem) (h : WrA M p v bs) (hx : Sl M x 1 (ints .u8 l)) (hl : bs.length + l.length ≤ 1000000) :
  CallA Try.prog 64 [.pointer (some ⟨p, 0, none⟩), x] M fun r M' => r = .tuple ⟨[]⟩ ∧ WrS M p v (bs ++ l) M' := by
 obtain ⟨hat, hown, hno⟩ := h
 (refine CallA.of_body Try.func64 rfl (by rfl) ?_; simp only [Try.ntmps64, List.length_cons, List.length_nil, List.replicate, List.cons_append, List.nil_append, Nat.reduceSub, Nat.reduceAdd])
 (repeat (first | refine st ?_ | refine σa ?_ | (refine σb ?_; simp (disch := omega) only [push_cast, ↓reduceIte, reduceCtorEq, ν1, ν2, ν3, ν4, ν5, ζ1, ζ2, ζ3, ζ4, ζ5, hat.ld])))
 refine appK.ints (P := Try.prog) (e := 5) (bt := 1) (z := .int .u8 0) (by kernel_rfl) (by kernel_rfl) (by kernel_rfl) (by kernel_rfl) (by decide) hown hx (by omega) ?_
 intro v' M2 hN hF
 have hat2 := hat.keep hF hno
 have c2 := isSl_cl hN.1.sl.isSl
 have o2 := isSl_one hN.1.sl.isSl
 have hd : [v].drop 1 = [] := rfl
 simp only [Value.oneCell'] at o2
 (repeat (first | refine st ?_ | refine σa ?_ | (refine σb ?_; simp (disch := omega) only [push_cast, ↓reduceIte, reduceCtorEq, ν1, ν2, ν3, ν4, ν5, ζ1, ζ2, ζ3, ζ4, ζ5, hat2.get, hat2.ld, c2, o2, hd, List.append_nil, boxE])))
 ((first | refine retA.ret (by rfl) ?_ | refine retA.normal (by rfl) ?_); simp (disch := omega) only [push_cast, ↓reduceIte, reduceCtorEq, Nat.reduceAdd, Nat.reduceMul, Nat.reduceLeDiff, Nat.reduceLT, Nat.reduceSub, Int.reduceNe, Int.reduceEq, Int.reduceLE, Int.reduceLT, Int.reduceToNat])
 have hpl := hat.lt
 have hpb : p ∉ blkOf v' := fun h => by have := hN.blk p h; omega
 have f2 := Fr.set M2 p (.box [v'])
 have hq : ∀ b ∈ blkOf v', b ∉ [p] := fun b h h' => hpb (by simp at h'; rw [← h']; exact h)
 have N2 := hN.keep f2 hq
 exact ⟨(hF.trans f2).cut (fun b hb _ => by simp at hb; simp; rcases hb with h | h; exact .inr h; exact .inl h), v', ⟨hat2.set _, N2.1, hpb⟩, N2⟩
theorem WrA.keep {M M' : Mem} {p : Nat} {v : Value} {bs : List Int} {X : List Nat} (h : WrA M p v bs) (f : Fr M M' X) (hx : ∀ b ∈ p :: blkOf v, b ∉ X) : WrA M' p v bs :=
 ⟨h.at'.keep f (hx p (by simp)), h.own.keep f (fun b hb => hx b (by simp [hb])), h.no⟩
theorem WrS.pre {M M1 M' : Mem} {p : Nat} {v : Value} {bs : List Int} (f : Fr M M1 []) (h : WrS M1 p v bs M') : WrS M p v bs M' := by
 obtain ⟨g, v', a, n⟩ := h
 exact ⟨(f.trans g).cut (fun b hb _ => by simpa using hb), v', a, n.after f⟩
theorem WrS.tr {M M1 M2 : Mem} {p : Nat} {v v1 : Value} {bs bs' : List Int} (f : Fr M M1 (p :: blkOf v)) (hn : New M M1 v1 1 (ints .u8 bs)) (h : WrS M1 p v1 bs' M2) : WrS M p v bs' M2 := by
 obtain ⟨g, v', a, n⟩ := h
 refine ⟨(f.trans g).cut (fun b hb hlt => ?_), v', a, n.after f⟩
 rcases List.mem_append.1 hb with hb | hb
 ·exact hb
 ·rcases List.mem_cons.1 hb with hb | hb
  ·rw [hb]; simp
  ·have := hn.blk b hb; omega
theorem wtwo_spec (p : Nat) (v : Value) (bs : List Int) (n : Int) (M : Mem) (h : WrA M p v bs) (hn : 0 ≤ n ∧ n ≤ 65535) (hl : bs.length ≤ 900000) :
  CallA Try.prog 63 [.pointer (some ⟨p, 0, none⟩), .int .u16 n] M fun r M' => r = .tuple ⟨[]⟩ ∧ WrS M p v (bs ++ twoB n) M' := by
 have h1 := hn.1
 have h2 := hn.2
 have q8 : n / 256 % 256 = n / 256 := by omega
 have e8u : (2 : Int) ^ min 8 IntKind.u16.bits = 256 := by decide
 (refine CallA.of_body Try.func63 rfl (by rfl) ?_; simp only [Try.ntmps63, List.length_cons, List.length_nil, List.replicate, List.cons_append, List.nil_append, Nat.reduceSub, Nat.reduceAdd])
 (repeat (first | refine st ?_ | refine σa ?_ | (refine σb ?_; simp (disch := omega) only [push_cast, ↓reduceIte, reduceCtorEq, ν1, ν2, ν3, ν4, ν5, ζ1, ζ2, ζ3, ζ4, ζ5, fdiv_in, e8u, wm_u8, q8, buildE, memE, boxE])))
 have P := Fr.push M (.row true 1 [.int .u8 (n / 256), .int .u8 (n % 256)])
 have r := New.row M (s := 1) (n := 2) (cs := ints .u8 [n / 256, n % 256]) (by omega) rfl rfl (by decide)
 refine (woct_spec p v bs _ [n / 256, n % 256] _ (h.keep P (by simp)) r.sl (by simp; omega)).mono ?_
 rintro r M2 ⟨rfl, hW⟩
 (repeat (first | refine st ?_ | refine σa ?_ | (refine σb ?_; simp (disch := omega) only [push_cast, ↓reduceIte, reduceCtorEq, ν1, ν2, ν3, ν4, ν5, ζ1, ζ2, ζ3, ζ4, ζ5])))
 ((first | refine retA.ret (by rfl) ?_ | refine retA.normal (by rfl) ?_); simp (disch := omega) only [push_cast, ↓reduceIte, reduceCtorEq, Nat.reduceAdd, Nat.reduceMul, Nat.reduceLeDiff, Nat.reduceLT, Nat.reduceSub, Int.reduceNe, Int.reduceEq, Int.reduceLE, Int.reduceLT, Int.reduceToNat])
 have e : twoB n = [n / 256, n % 256] := by unfold twoB; rw [q8]
 rw [e]
 exact hW.pre P
theorem wfour_spec (p : Nat) (v : Value) (bs : List Int) (n : Int) (M : Mem) (h : WrA M p v bs) (hn : u32 n) (hl : bs.length ≤ 900000) :
  CallA Try.prog 102 [.pointer (some ⟨p, 0, none⟩), .int .u32 n] M fun r M' => r = .tuple ⟨[]⟩ ∧ WrS M p v (bs ++ addrBytes n) M' := by
 have h1 := hn.1
 have h2 := hn.2
 have q24 : n / 16777216 % 256 = n / 16777216 := by omega
 (refine CallA.of_body Try.func102 rfl (by rfl) ?_; simp only [Try.ntmps102, List.length_cons, List.length_nil, List.replicate, List.cons_append, List.nil_append, Nat.reduceSub, Nat.reduceAdd])
 (repeat (first | refine st ?_ | refine σa ?_ | (refine σb ?_; simp (disch := omega) only [push_cast, ↓reduceIte, reduceCtorEq, ν1, ν2, ν3, ν4, ν5, ζ1, ζ2, ζ3, ζ4, ζ5, fdiv_in, e24, e16, e8, wm_u8, q24, buildE, memE, boxE])))
 have P := Fr.push M (.row true 1 [.int .u8 (n / 16777216), .int .u8 (n / 65536 % 256), .int .u8 (n / 256 % 256), .int .u8 (n % 256)])
 have r := New.row M (s := 1) (n := 4) (cs := ints .u8 [n / 16777216, n / 65536 % 256, n / 256 % 256, n % 256]) (by omega) rfl rfl (by decide)
 refine (woct_spec p v bs _ [n / 16777216, n / 65536 % 256, n / 256 % 256, n % 256] _ (h.keep P (by simp)) r.sl (by simp; omega)).mono ?_
 rintro r M2 ⟨rfl, hW⟩
 (repeat (first | refine st ?_ | refine σa ?_ | (refine σb ?_; simp (disch := omega) only [push_cast, ↓reduceIte, reduceCtorEq, ν1, ν2, ν3, ν4, ν5, ζ1, ζ2, ζ3, ζ4, ζ5])))
 ((first | refine retA.ret (by rfl) ?_ | refine retA.normal (by rfl) ?_); simp (disch := omega) only [push_cast, ↓reduceIte, reduceCtorEq, Nat.reduceAdd, Nat.reduceMul, Nat.reduceLeDiff, Nat.reduceLT, Nat.reduceSub, Int.reduceNe, Int.reduceEq, Int.reduceLE, Int.reduceLT, Int.reduceToNat])
 exact hW.pre P
theorem gmask_spec (p : PX) (M : Mem) (h0 : 0 ≤ p.1 ∧ p.1 ≤ 4294967295) : CallA Try.prog 46 [.agg ⟨[.int .u32 p.1, .int .i64 p.2]⟩] M fun r M' => Fr M M' [] ∧ r = .agg ⟨[.int .u32 (maskP p).1, .int .i64 (maskP p).2]⟩ := by
 obtain ⟨a, n⟩ := p
 simp only at h0 ⊢
 obtain ⟨k, hk⟩ : ∃ k, k = maskN n := ⟨_, rfl⟩
 have hk32 : k ≤ 32 := by rw [hk]; exact maskN_le n
 have e : maskP (a, n) = (a / 2 ^ (32 - k) * 2 ^ (32 - k), (k : Int)) := by rw [hk]; rfl
 have hkv : (if (if 32 < n then (32 : Int) else n) > 0 then (if 32 < n then (32 : Int) else n) else 0) = k := by
  rw [hk]; unfold maskN
  repeat' split
  all_goals omega
 rw [e]
 obtain ⟨j, hj⟩ : ∃ j, j = 32 - k := ⟨_, rfl⟩
 rw [← hj]
 have hjk : (32 : Int) - (k : Int) = (j : Int) := by omega
 have hm : min j IntKind.u64.bits = j := Nat.min_eq_left (by show j ≤ 64; omega)
 have hp := pow_pos32 j
 have hfd : a.fdiv (2 ^ j) = a / 2 ^ j := fdiv_in (by omega)
 have hle := Int.ediv_mul_le a (show (2 : Int) ^ j ≠ 0 by omega)
 have hge : 0 ≤ a / 2 ^ j * 2 ^ j := Int.mul_nonneg (Int.ediv_nonneg (by omega) (by omega)) (by omega)
 have w1 : IntKind.u64.wrap a = a := w_u64 (by omega) (by omega)
 have w2 : IntKind.u64.wrap (a / 2 ^ j * 2 ^ j) = a / 2 ^ j * 2 ^ j := w_u64 hge (by omega)
 have w3 : IntKind.u32.wrap (a / 2 ^ j * 2 ^ j) = a / 2 ^ j * 2 ^ j := w_u32 hge (by omega)
 have w4 : IntKind.i64.wrap (j : Int) = j := w_i64 (by omega) (by omega)
 (refine CallA.of_body Try.func46 rfl (by rfl) ?_; simp only [Try.ntmps46, List.length_cons, List.length_nil, List.replicate, List.cons_append, List.nil_append, Nat.reduceSub, Nat.reduceAdd])
 (repeat (first | refine st ?_ | refine σa ?_ | (refine σb ?_; simp (disch := omega) only [push_cast, ↓reduceIte, reduceCtorEq, ν1, ν2, ν3, ν4, ν5, ζ1, ζ2, ζ3, ζ4, ζ5, hkv, hjk, w1, w2, w3, w4, hfd, hm, Int.toNat_natCast, buildE, memE, boxE])))
 ((first | refine retA.ret (by rfl) ?_ | refine retA.normal (by rfl) ?_); simp (disch := omega) only [push_cast, ↓reduceIte, reduceCtorEq, Nat.reduceAdd, Nat.reduceMul, Nat.reduceLeDiff, Nat.reduceLT, Nat.reduceSub, Int.reduceNe, Int.reduceEq, Int.reduceLE, Int.reduceLT, Int.reduceToNat, memE, boxE])
 exact Fr.push2 _ _ _
end Go.Proofs.Ytbdejnnbpdgjlaa.Ax
namespace Go.Proofs.Ytbdejnnbpdgjlaa.Ax
open Go Go.RowKit
set_option linter.unusedVariables false
set_option linter.unusedSimpArgs false
set_option maxRecDepth 100000
set_option maxHeartbeats 20000000
def isArT (P : Program) (ty : TypeId) : Bool := match P.underlying ty with
 | some (.array _ _) => true
 | _ => false
def arLen (P : Program) (ty : TypeId) : Option Nat := match P.underlying ty with
 | some (.array n e) => if tsz P e = some 1 then some n else none
 | _ => none
theorem arLen_inv {P : Program} {ty : TypeId} {n : Nat} (h : arLen P ty = some n) : ∃ e, P.underlying ty = some (.array n e) ∧ tsz P e = some 1 := by
 unfold arLen at h
 split at h
 ·rename_i m e hu
  split at h
  ·cases h; exact ⟨e, hu, by assumption⟩
  ·cases h
 ·cases h
def LP.cut (b j n : Nat) : LP := ⟨fun M => ∃ cs, M[b]? = some (.box cs) ∧ j + n ≤ cs.length, fun M M' ⟨cs, h1, h2⟩ f => ⟨cs, by rw [f.2 b (List.getElem?_eq_some_iff.1 h1).1 (by simp)]; exact h1, h2⟩⟩
section
variable {P : Program} {ops : Array Oper} {todo done : List Nat} {Ls : List (Nat × LP)} {rest : List Oper} {K : List Value → Mem → Prop} {t : List Value} {M : Mem}
variable {i : Nat} {dst : Option Tmp} {type : TypeId} {pos : String} {after : Array Edge}
theorem AL.cutW {ty : TypeId} {x : Operand} {lo hi : Option Operand} (ht : isArT P ty = true) (hok : okOpds ⟨dst, .slice ty x lo hi none, type, pos, after, none⟩ = true)
  (h : ptrK (ev t x) fun b j => ∃ n, arLen P ty = some n ∧ ∃ cs, M[b]? = some (.box cs) ∧ ∃ l, natOf (lo.map (ev t)) 0 = some l ∧ ∃ r, natOf (hi.map (ev t)) n = some r ∧ l ≤ r ∧ r ≤ n ∧ j + n ≤ cs.length ∧ AL P ops rest K (putT t dst (.slice (some ⟨b, j + l, none⟩) (r - l) (n - l))) M) : AL P ops (⟨dst, .slice ty x lo hi none, type, pos, after, none⟩ :: rest) K t M := by
 obtain ⟨b, j, hx, n, hn, cs, hM, l, hl, r, hr, h1, h2, h3, hc⟩ := ptrK_elim h
 obtain ⟨e, hu, hs⟩ := arLen_inv hn
 exact AL.op hok rfl (AOp.load (load_cut rfl hu hs hx hl hr ⟨h1, h2⟩) ⟨cs, hM, h3⟩ hc)
theorem AH.cutW {ty : TypeId} {x : Operand} {lo hi : Option Operand} (ht : isArT P ty = true) (hok : okOpds ⟨dst, .slice ty x lo hi none, type, pos, after, none⟩ = true)
  (h : ptrK (ev t x) fun b j => ∃ n, arLen P ty = some n ∧ ∃ cs, M[b]? = some (.box cs) ∧ ∃ l, natOf (lo.map (ev t)) 0 = some l ∧ ∃ r, natOf (hi.map (ev t)) n = some r ∧ l ≤ r ∧ r ≤ n ∧ j + n ≤ cs.length ∧ ADL P ops todo (i :: done) (Ls ++ [(i, LP.cut b j n)]) K (putT t dst (.slice (some ⟨b, j + l, none⟩) (r - l) (n - l))) M) : AH P ops dst (.slice ty x lo hi none) type pos after none i todo done Ls K t M := fun ho => by
 obtain ⟨b, j, hx, n, hn, cs, hM, l, hl, r, hr, h1, h2, h3, hc⟩ := ptrK_elim h
 obtain ⟨e, hu, hs⟩ := arLen_inv hn
 exact ADL.lp (LP.cut b j n) ho rfl hok rfl (load_cut rfl hu hs hx hl hr ⟨h1, h2⟩) ⟨cs, hM, h3⟩ hc
theorem AH.apC {ty ty' : TypeId} {x y : Operand} {Ls0 : List (Nat × LP)} {j b j0 n : Nat} (hok : okOpd x = true) (hok' : okOpd y = true) (hL : (Ls0.map Prod.fst).all (fun x => bef ops x i) = true)
  (h : appK P ty ty' (ev t x) (ev t y) M fun v' M' => (∃ cs, M'[b]? = some (.box cs) ∧ j0 + n ≤ cs.length) ∧ ADL P ops todo (i :: done) [(j, LP.cut b j0 n)] K (putT t dst v') M') : AH P ops dst (.call { callee := .builtin .append, args := ⟨[x, y]⟩, argTypes := ⟨[ty, ty']⟩ }) type pos after none i todo done (Ls0 ++ [(j, LP.cut b j0 n)]) K t M := fun ho => by
 refine ADL.ef ho rfl (by simp [okOpds, calmOp, Op.operands, Call.operands, hok, hok']) rfl ((appK_sound rfl h).mono fun v M' h => ?_)
 have hf : ∀ p ∈ (Ls0 ++ [(j, LP.cut b j0 n)]).filter (fun p => !bef ops p.1 i), p = (j, LP.cut b j0 n) := by
  intro p hp
  obtain ⟨h1, h2⟩ := List.mem_filter.1 hp
  rcases List.mem_append.1 h1 with h1 | h1
  ·have := List.all_eq_true.1 hL p.1 (List.mem_map_of_mem h1)
   rw [this] at h2; cases h2
  ·exact List.mem_singleton.1 h1
 refine ⟨fun p hp => by rw [hf p hp]; exact h.1, fun h1 h2 h3 => ?_⟩
 refine AD.drop (h.2 h1 h2 (fun p hp => by rw [List.mem_singleton.1 hp]; exact h.1)) (fun p hp => ?_) (fun p hp => ?_)
 ·obtain ⟨q, hq, rfl⟩ := List.mem_map.1 hp
  rw [hf q hq]; simp
 ·obtain ⟨q, hq, rfl⟩ := List.mem_map.1 hp
  rw [List.mem_singleton.1 hq]; exact h.1
end
theorem Sl.ofBox {M : Mem} {b j r n : Nat} {cs : List Value} (hM : M[b]? = some (.box cs)) (h1 : j + n ≤ cs.length) (h2 : r ≤ n) (h3 : n < capLow) (ho : cs.all Value.oneCell' = true) : Sl M (.slice (some ⟨b, j, none⟩) r n) 1 ((cs.drop j).take r) := by
 have hb := (List.getElem?_eq_some_iff.1 hM).1
 have hl : ((cs.drop j).take r).length = r := by rw [List.length_take, List.length_drop]; omega
 refine ⟨.inr ⟨b, j, r, n, rfl, hb, by unfold capLb; rw [if_pos h3]; exact h2⟩, by rw [hl]; simp [sln], ⟨by omega, fun a n' c B hv _ hB => ?_⟩, ?_, fun _ => ?_⟩
 ·cases hv
  rw [hM] at hB
  cases hB; rfl
 ·rw [List.all_eq_true] at ho ⊢
  intro x hx
  exact ho x (List.mem_of_mem_drop (List.mem_of_mem_take hx))
 ·rw [hl]
  show Ax.cellsM M b j r = _
  unfold Ax.cellsM
  rw [hM, Option.bind_some]
  show (if j + r ≤ cs.length then _ else none) = _
  rw [if_pos (by omega)]; rfl
end Go.Proofs.Ytbdejnnbpdgjlaa.Ax
namespace Go.Proofs.Ytbdejnnbpdgjlaa.Ax
open Go Go.RowKit
open Nat renaming reduceAdd → ν1, reduceMul → ν2, reduceLeDiff → ν3, reduceLT → ν4, reduceSub → ν5
open Int renaming reduceNe → ζ1, reduceEq → ζ2, reduceLE → ζ3, reduceLT → ζ4, reduceToNat → ζ5
set_option linter.unusedVariables false
set_option linter.unusedSimpArgs false
set_option maxRecDepth 100000
set_option maxHeartbeats 20000000
attribute [local irreducible] thenA blockA scopeA retA AL AW AD ADL AH clrK CallA apure aload bload appK ptrK fnK ares szOk planOk okOps
theorem d130_Nl2 {g n : Prop} (k : n) (h : n → g := by first | exact AW.dr (id := 1) (by rfl) [0, 1, 2, 3] (by kernel_rfl) (by kernel_rfl)) : g := h k
theorem a130_Nl2 {g n : Prop} (k : n) (h : n → g := by first | exact AH.ca (dst := some 5) rfl) : g := h k
theorem d59_Nl2 {g n : Prop} (k : n) (h : n → g := by first | exact AW.dr (id := 6) (by rfl) [0, 1, 2, 3, 4, 5, 6, 7, 8] (by kernel_rfl) (by kernel_rfl)) : g := h k
theorem px_eq (p q : PX) : aeqV Try.prog 3 32 (.agg ⟨[.int .u32 p.1, .int .i64 p.2]⟩) (.agg ⟨[.int .u32 q.1, .int .i64 q.2]⟩) = some (decide (p = q)) := by
 have h : aeqV Try.prog 3 32 (.agg ⟨[.int .u32 p.1, .int .i64 p.2]⟩) (.agg ⟨[.int .u32 q.1, .int .i64 q.2]⟩) = if (p.1 == q.1) = true then (if (p.2 == q.2) = true then some true else some false) else some false := by kernel_rfl
 rw [h]
 obtain ⟨a, n⟩ := p
 obtain ⟨b, m⟩ := q
 by_cases h1 : a = b <;> by_cases h2 : n = m <;> simp [h1, h2]
theorem pxs_get {l : List PX} {i : Nat} (h : i < l.length) : (pxs l)[i * 2]? = some (.int .u32 (l.getD i (0, 0)).1) ∧ (pxs l)[i * 2 + 1]? = some (.int .i64 (l.getD i (0, 0)).2) := by
 induction l generalizing i with
 | nil => simp at h
 | cons p l ih =>
  cases i with
  | zero => exact ⟨rfl, rfl⟩
  | succ i =>
   have := ih (i := i) (by simpa using h)
   have e : pxs (p :: l) = .int .u32 p.1 :: .int .i64 p.2 :: pxs l := rfl
   rw [e, show (i + 1) * 2 = i * 2 + 1 + 1 by omega, show i * 2 + 1 + 1 + 1 = (i * 2 + 1) + 1 + 1 by omega]
   simpa using this
theorem Sl.lnX {M : Mem} {v : Value} {l : List PX} (h : Sl M v 2 (pxs l)) : sln v = l.length := by have := h.len; rw [pxs_length] at this; omega
theorem Sl.ldX {M : Mem} {v : Value} {l : List PX} (h : Sl M v 2 (pxs l)) {i : Nat} (hi : i < l.length) : aload Try.prog 32 M (sbk v) (sof v + i * 2) = some (.agg ⟨[.int .u32 (l.getD i (0, 0)).1, .int .i64 (l.getD i (0, 0)).2]⟩) := by
 have hc := h.cellsM (j := i * 2) (n := 2) (by omega) (by rw [pxs_length]; omega)
 obtain ⟨g1, g2⟩ := pxs_get hi
 have e : ((pxs l).drop (i * 2)).take 2 = [.int .u32 (l.getD i (0, 0)).1, .int .i64 (l.getD i (0, 0)).2] := by
  apply List.ext_getElem?
  intro j
  rw [List.getElem?_take, List.getElem?_drop]
  match j with
  | 0 => simpa using g1
  | 1 => simpa using g2
  | j + 2 => rw [if_neg (by omega)]; rfl
 rw [e] at hc
 have hu : ∃ fs, Try.prog.underlying 32 = some (.struct fs) := ⟨_, Try.underlying32⟩
 obtain ⟨fs, hu⟩ := hu
 have ht : tsz Try.prog 32 = some 2 := by kernel_rfl
 unfold aload
 rw [hu]
 simp only [ht, Option.bind_some]
 rw [hc]; rfl
theorem nbytes_spec (n : Int) (M : Mem) (h : 0 ≤ n ∧ n ≤ 1000) : CallA Try.prog 120 [.int .i64 n] M fun r M' => M' = M ∧ r = .int .i64 (nbytes n : Nat) := by
 have h1 := h.1
 have h2 := h.2
 (refine CallA.of_body Try.func120 rfl (by rfl) ?_; simp only [Try.ntmps120, List.length_cons, List.length_nil, List.replicate, List.cons_append, List.nil_append, Nat.reduceSub, Nat.reduceAdd])
 (repeat (first | refine st ?_ | refine σa ?_ | (refine σb ?_; simp (disch := omega) only [push_cast, ↓reduceIte, reduceCtorEq, ν1, ν2, ν3, ν4, ν5, ζ1, ζ2, ζ3, ζ4, ζ5, w_i64, tdiv_in])))
 ((first | refine retA.ret (by rfl) ?_ | refine retA.normal (by rfl) ?_); simp (disch := omega) only [push_cast, ↓reduceIte, reduceCtorEq, Nat.reduceAdd, Nat.reduceMul, Nat.reduceLeDiff, Nat.reduceLT, Nat.reduceSub, Int.reduceNe, Int.reduceEq, Int.reduceLE, Int.reduceLT, Int.reduceToNat])
 refine congrArg _ ?_
 unfold nbytes
 omega
theorem size_spec (p : PX) (M : Mem) (h0 : goodX p) : CallA Try.prog 130 [.agg ⟨[.int .u32 p.1, .int .i64 p.2]⟩] M fun r M' => Fr M M' [] ∧ r = .int .i64 (sizeX p : Nat) := by
 (refine CallA.of_body Try.func130 rfl (by rfl) ?_; simp only [Try.ntmps130, List.length_cons, List.length_nil, List.replicate, List.cons_append, List.nil_append, Nat.reduceSub, Nat.reduceAdd])
 (repeat (first | refine st ?_ | refine σa ?_ | refine d130_Nl2 ?_ | ((first | refine a130_Nl2 ?_ | refine σb ?_ | refine σc ?_); simp (disch := omega) only [push_cast, ↓reduceIte, reduceCtorEq, ν1, ν2, ν3, ν4, ν5, ζ1, ζ2, ζ3, ζ4, ζ5, buildE, memE, boxE])))
 refine (gmask_spec p _ h0).mono ?_
 rintro r M2 ⟨hF2, rfl⟩
 refine ⟨hF2, ?_⟩
 have pe := px_eq p (maskP p)
 (repeat (first | refine st ?_ | refine σa ?_ | refine d130_Nl2 ?_ | ((first | refine a130_Nl2 ?_ | refine σb ?_ | refine σc ?_); simp (disch := omega) only [push_cast, ↓reduceIte, reduceCtorEq, ν1, ν2, ν3, ν4, ν5, ζ1, ζ2, ζ3, ζ4, ζ5, pe])))
 have l2 : ∀ ty j, aload Try.prog ty M2 M.length j = bload Try.prog ty [.int .u32 p.1, .int .i64 p.2] j := fun ty j => ((At.push M (.box [.int .u32 p.1, .int .i64 p.2])).keep hF2 (by simp)).ld
 have hFF := (Fr.push M (.box [.int .u32 p.1, .int .i64 p.2])).tr hF2
 by_cases c : p = maskP p
 ·have d : decide (p = maskP p) = true := decide_eq_true c
  have hl := rightX_len (p := p) c
  rw [d]
  (repeat (first | refine st ?_ | refine σa ?_ | refine d130_Nl2 ?_ | ((first | refine a130_Nl2 ?_ | refine σb ?_ | refine σc ?_); simp (disch := omega) only [push_cast, ↓reduceIte, reduceCtorEq, ν1, ν2, ν3, ν4, ν5, ζ1, ζ2, ζ3, ζ4, ζ5, l2])))
  refine (nbytes_spec p.2 M2 (by omega)).mono ?_
  rintro r M3 ⟨rfl, rfl⟩
  have nb := nbytes_le hl
  (repeat (first | refine st ?_ | refine σa ?_ | refine d130_Nl2 ?_ | ((first | refine a130_Nl2 ?_ | refine σb ?_ | refine σc ?_); simp (disch := omega) only [push_cast, ↓reduceIte, reduceCtorEq, ν1, ν2, ν3, ν4, ν5, ζ1, ζ2, ζ3, ζ4, ζ5, w_i64])))
  ((first | refine retA.ret (by rfl) ?_ | refine retA.normal (by rfl) ?_); simp (disch := omega) only [push_cast, ↓reduceIte, reduceCtorEq, Nat.reduceAdd, Nat.reduceMul, Nat.reduceLeDiff, Nat.reduceLT, Nat.reduceSub, Int.reduceNe, Int.reduceEq, Int.reduceLE, Int.reduceLT, Int.reduceToNat])
  refine ⟨hFF, ?_⟩
  unfold sizeX
  rw [if_pos (show rightX p from c)]
  push_cast; rfl
 ·have d : decide (p = maskP p) = false := decide_eq_false c
  rw [d]
  (repeat (first | refine st ?_ | refine σa ?_ | refine d130_Nl2 ?_ | ((first | refine a130_Nl2 ?_ | refine σb ?_ | refine σc ?_); simp (disch := omega) only [push_cast, ↓reduceIte, reduceCtorEq, ν1, ν2, ν3, ν4, ν5, ζ1, ζ2, ζ3, ζ4, ζ5])))
  ((first | refine retA.ret (by rfl) ?_ | refine retA.normal (by rfl) ?_); simp (disch := omega) only [push_cast, ↓reduceIte, reduceCtorEq, Nat.reduceAdd, Nat.reduceMul, Nat.reduceLeDiff, Nat.reduceLT, Nat.reduceSub, Int.reduceNe, Int.reduceEq, Int.reduceLE, Int.reduceLT, Int.reduceToNat])
  refine ⟨hFF, ?_⟩
  unfold sizeX
  rw [if_neg (show ¬ rightX p from c)]; rfl
theorem psame_spec (v w : Value) (l m : List PX) (M : Mem) (hv : Sl M v 2 (pxs l)) (hw : Sl M w 2 (pxs m)) (hl : l.length ≤ 1000000000) : CallA Try.prog 59 [v, w] M fun r M' => M' = M ∧ r = .bool (decide (l = m)) := by
 have hs := hv.isSl
 have hn := hv.lnX
 have hs2 := hw.isSl
 have hn2 := hw.lnX
 (refine CallA.of_body Try.func59 rfl (by rfl) ?_; simp only [Try.ntmps59, List.length_cons, List.length_nil, List.replicate, List.cons_append, List.nil_append, Nat.reduceSub, Nat.reduceAdd])
 by_cases hlen : l.length = m.length
 rotate_left
 ·have d0 : decide ((l.length : Int) = m.length) = false := decide_eq_false (by omega)
  (repeat (first | refine st ?_ | refine σa ?_ | refine d59_Nl2 ?_ | ((first | refine σb ?_ | refine σc ?_); simp (disch := omega) only [push_cast, ↓reduceIte, reduceCtorEq, ν1, ν2, ν3, ν4, ν5, ζ1, ζ2, ζ3, ζ4, ζ5, hs, hn, hs2, hn2, d0, Bool.not_false])))
  ((first | refine retA.ret (by rfl) ?_ | refine retA.normal (by rfl) ?_); simp (disch := omega) only [push_cast, ↓reduceIte, reduceCtorEq, Nat.reduceAdd, Nat.reduceMul, Nat.reduceLeDiff, Nat.reduceLT, Nat.reduceSub, Int.reduceNe, Int.reduceEq, Int.reduceLE, Int.reduceLT, Int.reduceToNat])
  have hx : l ≠ m := fun e => hlen (by rw [e])
  simp [hx]
 have d0 : decide ((l.length : Int) = m.length) = true := decide_eq_true (by omega)
 (repeat (first | refine st ?_ | refine σa ?_ | refine d59_Nl2 ?_ | ((first | refine σb ?_ | refine σc ?_); simp (disch := omega) only [push_cast, ↓reduceIte, reduceCtorEq, ν1, ν2, ν3, ν4, ν5, ζ1, ζ2, ζ3, ζ4, ζ5, hs, hn, hs2, hn2, d0, Bool.not_true])))
 refine AW.loopF [4, 5, 13, 14, 15, 16, 17, 18, 19, 20, 21, 22, 23, 24, 25] (fun n g M' => ∃ i : Nat, g 13 = .int .i64 i ∧ i + n = l.length ∧ M' = M ∧ ∀ q, q < i → l.getD q (0, 0) = m.getD q (0, 0)) l.length ?_ ?_
 ·exact ⟨0, rfl, by omega, rfl, fun q h => by omega⟩
 rintro n g M1 ⟨i, h13, hi, rfl, he⟩
 simp (disch := omega) only [push_cast, ↓reduceIte, reduceCtorEq, Nat.reduceAdd, Nat.reduceMul, Nat.reduceLeDiff, Nat.reduceLT, Nat.reduceSub, Int.reduceNe, Int.reduceEq, Int.reduceLE, Int.reduceLT, Int.reduceToNat, h13]
 (repeat (first | refine st ?_ | refine σa ?_ | refine d59_Nl2 ?_ | ((first | refine σb ?_ | refine σc ?_); simp (disch := omega) only [push_cast, ↓reduceIte, reduceCtorEq, ν1, ν2, ν3, ν4, ν5, ζ1, ζ2, ζ3, ζ4, ζ5])))
 ((first | refine AL.gu rfl (fun hlt => ?_) (fun hlt => ?_) | refine AW.condS rfl rfl (fun hlt => ?_) (fun hlt => ?_)) <;> (try (have hlt' := hlt; simp only [Bool.not_eq_true', Bool.not_eq_false', Bool.not_true, Bool.not_false, decide_eq_true_eq, decide_eq_false_iff_not, Classical.not_not, Int.not_lt, Int.not_le, gt_iff_lt, ge_iff_le, beq_iff_eq] at hlt')))
 ·have l1 := hv.ldX (i := i) (by omega)
  have l2 := hw.ldX (i := i) (by omega)
  have pe := px_eq (l.getD i (0, 0)) (m.getD i (0, 0))
  (repeat (first | refine st ?_ | refine σa ?_ | refine d59_Nl2 ?_ | ((first | refine σb ?_ | refine σc ?_); simp (disch := omega) only [push_cast, ↓reduceIte, reduceCtorEq, ν1, ν2, ν3, ν4, ν5, ζ1, ζ2, ζ3, ζ4, ζ5, hs, hn, hs2, hn2, l1, l2, pe, Int.toNat_natCast])))
  by_cases c : l.getD i (0, 0) = m.getD i (0, 0)
  ·have d : decide (l.getD i (0, 0) = m.getD i (0, 0)) = true := decide_eq_true c
   rw [d]
   (repeat (first | refine st ?_ | refine σa ?_ | refine d59_Nl2 ?_ | ((first | refine σb ?_ | refine σc ?_); simp (disch := omega) only [push_cast, ↓reduceIte, reduceCtorEq, ν1, ν2, ν3, ν4, ν5, ζ1, ζ2, ζ3, ζ4, ζ5, w_i64])))
   refine ⟨rfl, n - 1, by omega, i + 1, rfl, by omega, rfl, fun q hq => ?_⟩
   by_cases e : q = i
   ·rw [e]; exact c
   ·exact he q (by omega)
  ·have d : decide (l.getD i (0, 0) = m.getD i (0, 0)) = false := decide_eq_false c
   rw [d]
   (repeat (first | refine st ?_ | refine σa ?_ | refine d59_Nl2 ?_ | ((first | refine σb ?_ | refine σc ?_); simp (disch := omega) only [push_cast, ↓reduceIte, reduceCtorEq, ν1, ν2, ν3, ν4, ν5, ζ1, ζ2, ζ3, ζ4, ζ5])))
   ((first | refine retA.ret (by rfl) ?_ | refine retA.normal (by rfl) ?_); simp (disch := omega) only [push_cast, ↓reduceIte, reduceCtorEq, Nat.reduceAdd, Nat.reduceMul, Nat.reduceLeDiff, Nat.reduceLT, Nat.reduceSub, Int.reduceNe, Int.reduceEq, Int.reduceLE, Int.reduceLT, Int.reduceToNat])
   have hx : l ≠ m := fun e => c (by rw [e])
   simp [hx]
 ·(repeat (first | refine st ?_ | refine σa ?_ | refine d59_Nl2 ?_ | ((first | refine σb ?_ | refine σc ?_); simp (disch := omega) only [push_cast, ↓reduceIte, reduceCtorEq, ν1, ν2, ν3, ν4, ν5, ζ1, ζ2, ζ3, ζ4, ζ5])))
  ((first | refine retA.ret (by rfl) ?_ | refine retA.normal (by rfl) ?_); simp (disch := omega) only [push_cast, ↓reduceIte, reduceCtorEq, Nat.reduceAdd, Nat.reduceMul, Nat.reduceLeDiff, Nat.reduceLT, Nat.reduceSub, Int.reduceNe, Int.reduceEq, Int.reduceLE, Int.reduceLT, Int.reduceToNat])
  have hx : l = m := by
   apply List.ext_getElem hlen
   intro q h1 h2
   have := he q (by omega)
   rw [List.getD_eq_getElem?_getD, List.getD_eq_getElem?_getD, List.getElem?_eq_getElem h1, List.getElem?_eq_getElem h2] at this
   simpa using this
  simp [hx]
theorem d103_Nl3 {g n : Prop} (k : n) (h : n → g := by first | exact AW.dr (id := 9) (by rfl) [0, 1, 2, 3, 4, 6, 7, 8, 5, 9, 10] (by kernel_rfl) (by kernel_rfl)) : g := h k
theorem a103_Nl3 {g n : Prop} (k : n) (h : n → g := by first | exact AL.cutW (ty := 212) (by kernel_rfl) rfl | exact AH.apC rfl rfl (by kernel_rfl) | exact AH.cutW (ty := 212) (by kernel_rfl) rfl) : g := h k
theorem k24 : (2 : Int) ^ min 24 IntKind.u32.bits = 16777216 := by decide
theorem k16 : (2 : Int) ^ min 16 IntKind.u32.bits = 65536 := by decide
theorem k8 : (2 : Int) ^ min 8 IntKind.u32.bits = 256 := by decide
theorem nlput_spec (v : Value) (l : List PX) (M : Mem) (hv : Sl M v 2 (pxs l)) (hg : ∀ p ∈ l, goodX p) (hl : l.length ≤ 1000000) : CallA Try.prog 103 [v] M fun r M' => Fr M M' [] ∧
  ((∃ bs w, nlPut l = some bs ∧ r = .tuple ⟨[w, .int .i64 0]⟩ ∧ New M M' w 1 (ints .u8 bs)) ∨ (nlPut l = none ∧ r = .tuple ⟨[.slice none 0 0, .int .i64 4]⟩)) := by
 have hs := hv.isSl
 have hn := hv.lnX
 have har : arLen Try.prog 212 = some 4 := by kernel_rfl
 (refine CallA.of_body Try.func103 rfl (by rfl) ?_; simp only [Try.ntmps103, List.length_cons, List.length_nil, List.replicate, List.cons_append, List.nil_append, Nat.reduceSub, Nat.reduceAdd])
 (repeat (first | refine st ?_ | refine σa ?_ | refine d103_Nl3 ?_ | ((first | refine a103_Nl3 ?_ | refine σb ?_ | refine σc ?_); simp (disch := omega) only [push_cast, ↓reduceIte, reduceCtorEq, ν1, ν2, ν3, ν4, ν5, ζ1, ζ2, ζ3, ζ4, ζ5, hs, hn])))
 refine AW.loopF [2, 3, 4, 6, 7, 8, 11, 12, 13, 14, 15, 16, 17, 18, 19, 20, 21, 22, 23, 24, 25, 26, 27, 28, 29, 30, 31, 32, 33, 34, 35, 36, 37, 38, 39, 40, 41, 42, 43, 44, 45] (fun n g M' => ∃ i : Nat, g 11 = .int .i64 i ∧ i + n = l.length ∧ ∃ o, g 4 = o ∧ ∃ bs, nlPut (l.take i) = some bs ∧ bs.length ≤ 5 * i ∧ New M M' o 1 (ints .u8 bs) ∧ Fr M M' []) l.length ?_ ?_
 ·exact ⟨0, rfl, by omega, _, rfl, [], rfl, by simp, New.nil M (by omega), Fr.refl M⟩
 rintro n g M1 ⟨i, h11, hi, o, h4, bs, hbs, hbl, hN, hF⟩
 simp (disch := omega) only [push_cast, ↓reduceIte, reduceCtorEq, Nat.reduceAdd, Nat.reduceMul, Nat.reduceLeDiff, Nat.reduceLT, Nat.reduceSub, Int.reduceNe, Int.reduceEq, Int.reduceLE, Int.reduceLT, Int.reduceToNat, h11, h4]
 (repeat (first | refine st ?_ | refine σa ?_ | refine d103_Nl3 ?_ | ((first | refine a103_Nl3 ?_ | refine σb ?_ | refine σc ?_); simp (disch := omega) only [push_cast, ↓reduceIte, reduceCtorEq, ν1, ν2, ν3, ν4, ν5, ζ1, ζ2, ζ3, ζ4, ζ5])))
 ((first | refine AL.gu rfl (fun hlt => ?_) (fun hlt => ?_) | refine AW.condS rfl rfl (fun hlt => ?_) (fun hlt => ?_)) <;> (try (have hlt' := hlt; simp only [Bool.not_eq_true', Bool.not_eq_false', Bool.not_true, Bool.not_false, decide_eq_true_eq, decide_eq_false_iff_not, Classical.not_not, Int.not_lt, Int.not_le, gt_iff_lt, ge_iff_le, beq_iff_eq] at hlt')))
 ·have hil : i < l.length := by omega
  have hld := (hv.keep hF (by simp)).ldX (i := i) hil
  obtain ⟨p, hp⟩ : ∃ p, p = l.getD i (0, 0) := ⟨_, rfl⟩
  have hpm : p ∈ l := by rw [hp, List.getD_eq_getElem?_getD, List.getElem?_eq_getElem hil]; exact List.getElem_mem hil
  have htk : l.take (i + 1) = l.take i ++ [p] := by rw [List.take_add_one, List.getElem?_eq_getElem hil, hp, List.getD_eq_getElem?_getD, List.getElem?_eq_getElem hil]; rfl
  have hgp := hg p hpm
  rw [← hp] at hld
  (repeat (first | refine st ?_ | refine σa ?_ | refine d103_Nl3 ?_ | ((first | refine a103_Nl3 ?_ | refine σb ?_ | refine σc ?_); simp (disch := omega) only [push_cast, ↓reduceIte, reduceCtorEq, ν1, ν2, ν3, ν4, ν5, ζ1, ζ2, ζ3, ζ4, ζ5, hs, hn, hld, Int.toNat_natCast, buildE, memE, boxE])))
  refine (size_spec p _ hgp).mono ?_
  rintro r M2 ⟨hF2, rfl⟩
  have b2 := (At.push M1 (.box [.int .u32 p.1, .int .i64 p.2])).keep hF2 (by simp)
  have F2 := (Fr.push M1 (.box [.int .u32 p.1, .int .i64 p.2])).tr hF2
  by_cases c : rightX p
  rotate_left
  ·have e0 : sizeX p = 0 := by unfold sizeX; rw [if_neg c]
   rw [e0]
   (repeat (first | refine st ?_ | refine σa ?_ | refine d103_Nl3 ?_ | ((first | refine a103_Nl3 ?_ | refine σb ?_ | refine σc ?_); simp (disch := omega) only [push_cast, ↓reduceIte, reduceCtorEq, ν1, ν2, ν3, ν4, ν5, ζ1, ζ2, ζ3, ζ4, ζ5])))
   ((first | refine retA.ret (by rfl) ?_ | refine retA.normal (by rfl) ?_); simp (disch := omega) only [push_cast, ↓reduceIte, reduceCtorEq, Nat.reduceAdd, Nat.reduceMul, Nat.reduceLeDiff, Nat.reduceLT, Nat.reduceSub, Int.reduceNe, Int.reduceEq, Int.reduceLE, Int.reduceLT, Int.reduceToNat])
   refine ⟨hF.tr F2, .inr ?_⟩
   have key : ∀ (l m : List PX) (q : PX), ¬ rightX q → nlPut (l ++ q :: m) = none := by
    intro l m q hq
    induction l with
    | nil => simp [nlPut, hq]
    | cons x l ih => simp only [List.cons_append, nlPut, ih]; split <;> rfl
   have e : l = l.take i ++ p :: l.drop (i + 1) := by
    have h1 := List.take_append_drop (i + 1) l
    rw [htk, List.append_assoc] at h1
    exact h1.symm
   rw [e]
   exact key _ _ _ c
  ·have hpl := rightX_len c
   have nb4 := nbytes_le hpl
   obtain ⟨nb, hnb⟩ : ∃ nb, nb = nbytes p.2 := ⟨_, rfl⟩
   obtain ⟨sz, hsz⟩ : ∃ sz, sz = 1 + nb := ⟨_, rfl⟩
   have e0 : sizeX p = sz := by unfold sizeX; rw [if_pos c, hsz, hnb]
   have g1 := hgp.1
   have g2 := hgp.2
   rw [← hnb] at nb4
   rw [e0]
   have d : decide ((sz : Int) = 0) = false := decide_eq_false (by omega)
   have q24 : p.1 / 16777216 % 256 = p.1 / 16777216 := by omega
   have hlr : (List.replicate 4 (Value.int .u8 0)).length = 4 := rfl
   have hdr : (List.replicate 4 (Value.int .u8 0)).drop 4 = [] := rfl
   have wl : IntKind.u8.wrap p.2 = p.2 := w_u8 (by omega) (by omega)
   have s1 : (sz : Int) - 1 = (nb : Int) := by omega
   have wi : IntKind.i64.wrap (nb : Int) = nb := w_i64 (by omega) (by omega)
   have b2r := b2.keep (Fr.push M2 (.box (List.replicate 4 (.int .u8 0)))) (by simp)
   have b2s := b2.keep (Fr.push M2 (.box [.int .u8 (p.1 / 16777216), .int .u8 (p.1 / 65536 % 256), .int .u8 (p.1 / 256 % 256), .int .u8 (p.1 % 256)])) (by simp)
   have b2t := b2s.keep (Fr.push _ (.row true 1 [.int .u8 p.2])) (by simp)
   (repeat (first | refine st ?_ | refine σa ?_ | refine d103_Nl3 ?_ | ((first | refine a103_Nl3 ?_ | refine σb ?_ | refine σc ?_); simp (disch := omega) only [push_cast, ↓reduceIte, reduceCtorEq, ν1, ν2, ν3, ν4, ν5, ζ1, ζ2, ζ3, ζ4, ζ5, d, b2.ld, b2r.ld, b2s.ld, b2t.ld, fdiv_in, k24, k16, k8, wm_u8, q24, hlr, hdr, wl, s1, har, wi, Blk.box.injEq, Option.map_none, Option.map_some, Int.toNat_natCast, buildE, memE, boxE])))
   have hob := hN.1.sl.blks
   have hM12 := F2.1
   have P1 := Fr.push M2 (.box [.int .u8 (p.1 / 16777216), .int .u8 (p.1 / 65536 % 256), .int .u8 (p.1 / 256 % 256), .int .u8 (p.1 % 256)])
   have A1 := At.push M2 (.box [.int .u8 (p.1 / 16777216), .int .u8 (p.1 / 65536 % 256), .int .u8 (p.1 / 256 % 256), .int .u8 (p.1 % 256)])
   have P2 := Fr.push (M2 ++ [.box [.int .u8 (p.1 / 16777216), .int .u8 (p.1 / 65536 % 256), .int .u8 (p.1 / 256 % 256), .int .u8 (p.1 % 256)]]) (.row true 1 [.int .u8 p.2])
   have r1 := New.row (M2 ++ [.box [.int .u8 (p.1 / 16777216), .int .u8 (p.1 / 65536 % 256), .int .u8 (p.1 / 256 % 256), .int .u8 (p.1 % 256)]]) (s := 1) (n := 1) (cs := ints .u8 [p.2]) (by omega) rfl rfl (by decide)
   have F3 : Fr M _ [] := ((hF.tr F2).tr P1).tr P2
   have hN3 : New M _ o 1 (ints .u8 bs) := hN.keep ((F2.tr P1).tr P2) (by simp)
   have A3 := A1.keep P2 (by simp)
   have hM2l : M2.length ∉ blkOf o := fun h => by have := hob _ h; omega
   refine appK.ints (P := Try.prog) (e := 5) (bt := 1) (z := .int .u8 0) (by kernel_rfl) (by kernel_rfl) (by kernel_rfl) (by kernel_rfl) (by decide) hN3.1 r1.sl (by simp; omega) ?_
   intro v1 M5 hN5 hF5
   have A5 := A3.keep hF5 hM2l
   have F5 := F3.new hN3 hF5
   have N5 := hN5.after F3
   refine ⟨⟨_, A5.get, by simp⟩, ?_⟩
   (repeat (first | refine st ?_ | refine σa ?_ | refine d103_Nl3 ?_ | ((first | refine a103_Nl3 ?_ | refine σb ?_ | refine σc ?_); simp (disch := omega) only [push_cast, ↓reduceIte, reduceCtorEq, ν1, ν2, ν3, ν4, ν5, ζ1, ζ2, ζ3, ζ4, ζ5])))
   have hsb := Sl.ofBox (j := 0) (r := nb) (n := 4) A5.get (by simp) (by omega) (by decide) (by simp [Value.oneCell'])
   have ecs : (([.int .u8 (p.1 / 16777216), .int .u8 (p.1 / 65536 % 256), .int .u8 (p.1 / 256 % 256), .int .u8 (p.1 % 256)] : List Value).drop 0).take nb = ints .u8 ((addrBytes p.1).take nb) := by simp [ints, addrBytes, List.map_take]
   rw [ecs] at hsb
   have hnt : ((addrBytes p.1).take nb).length = nb := by rw [List.length_take]; simp [addrBytes]; omega
   refine appK.ints (P := Try.prog) (e := 5) (bt := 1) (z := .int .u8 0) (by kernel_rfl) (by kernel_rfl) (by kernel_rfl) (by kernel_rfl) (by decide) N5.1 hsb (by rw [hnt, List.length_append, List.length_singleton]; omega) ?_
   intro v2 M6 hN6 hF6
   (repeat (first | refine st ?_ | refine σa ?_ | refine d103_Nl3 ?_ | ((first | refine a103_Nl3 ?_ | refine σb ?_ | refine σc ?_); simp (disch := omega) only [push_cast, ↓reduceIte, reduceCtorEq, ν1, ν2, ν3, ν4, ν5, ζ1, ζ2, ζ3, ζ4, ζ5])))
   refine ⟨rfl, n - 1, by omega, i + 1, by simp (disch := omega) only [push_cast, ↓reduceIte, reduceCtorEq, Nat.reduceAdd, Nat.reduceMul, Nat.reduceLeDiff, Nat.reduceLT, Nat.reduceSub, Int.reduceNe, Int.reduceEq, Int.reduceLE, Int.reduceLT, Int.reduceToNat, w_i64], by omega, bs ++ [p.2] ++ (addrBytes p.1).take nb, ?_, by rw [List.length_append, List.length_append, hnt, List.length_singleton]; omega, hN6.after F5, F5.new N5 hF6⟩
   rw [htk, nlPut_snoc, if_pos c, hbs, hnb]
   simp [putX]
 ·(repeat (first | refine st ?_ | refine σa ?_ | refine d103_Nl3 ?_ | ((first | refine a103_Nl3 ?_ | refine σb ?_ | refine σc ?_); simp (disch := omega) only [push_cast, ↓reduceIte, reduceCtorEq, ν1, ν2, ν3, ν4, ν5, ζ1, ζ2, ζ3, ζ4, ζ5])))
  ((first | refine retA.ret (by rfl) ?_ | refine retA.normal (by rfl) ?_); simp (disch := omega) only [push_cast, ↓reduceIte, reduceCtorEq, Nat.reduceAdd, Nat.reduceMul, Nat.reduceLeDiff, Nat.reduceLT, Nat.reduceSub, Int.reduceNe, Int.reduceEq, Int.reduceLE, Int.reduceLT, Int.reduceToNat])
  obtain rfl : i = l.length := by omega
  rw [List.take_length] at hbs
  exact ⟨hF, .inl ⟨bs, hbs, o, rfl, hN⟩⟩
end Go.Proofs.Ytbdejnnbpdgjlaa.Ax
