/- Contracts of functions over the abstract machine. No conditions: lemmas alone. -/
import Derived.Test.YtbdejnnbpdgjlaaPeerXLibD
namespace Go.Proofs.Ytbdejnnbpdgjlaa.Ax
open Go Go.RowKit
set_option linter.unusedVariables false
set_option linter.unusedSimpArgs false
set_option maxRecDepth 100000
set_option maxHeartbeats 20000000
theorem Sl.sub {M : Mem} {v : Value} {s : Nat} {cs : List Value} (h : Sl M v s cs) {l r c : Nat} (hl : l ≤ r) (hr : r ≤ sln v) (hc : r - l ≤ capLb c) (hz : c ≠ 0 → 0 < r - l ∨ scp v ≠ 0) : Sl M (subsl v s l r c) s ((cs.drop (l * s)).take ((r - l) * s)) ∧ ∀ b ∈ blkOf (subsl v s l r c), b ∈ blkOf v := by
 have hlen := h.len
 have e : (r - l) * s = ((cs.drop (l * s)).take ((r - l) * s)).length := by
  have h1 : l * s + (r - l) * s = r * s := by rw [← Nat.add_mul]; congr 1; omega
  have h2 : r * s ≤ sln v * s := Nat.mul_le_mul_right _ hr
  rw [List.length_take, List.length_drop]
  omega
 have hone : ((cs.drop (l * s)).take ((r - l) * s)).all Value.oneCell' = true :=
  List.all_eq_true.2 fun x hx => List.all_eq_true.1 h.one x (List.mem_of_mem_drop (List.mem_of_mem_take hx))
 rcases h.base with rfl | ⟨b, off, n, c0, rfl, hb, hcap⟩
 ·have hl0 : sln (.slice none 0 0) = 0 := rfl
  obtain rfl : r = 0 := by omega
  obtain rfl : l = 0 := by omega
  refine ⟨?_, fun b hb => hb⟩
  have hc0 : cs = [] := List.eq_nil_of_length_eq_zero (by rw [← hlen, hl0, Nat.zero_mul])
  subst hc0
  rw [List.drop_nil, List.take_nil]
  exact Sl.nil M h.sz.1
 ·have hn : sln (.slice (some ⟨b, off, none⟩) n c0) = n := rfl
  have hcc : c ≠ 0 → c0 ≠ 0 := fun h0 => by
   rcases hz h0 with h1 | h1
   ·rintro rfl
    rw [capLb_zero] at hcap
    omega
   ·exact h1
  refine ⟨⟨.inr ⟨b, off + l * s, r - l, c, rfl, hb, hc⟩, e, ?_, hone, fun hne => ?_⟩, fun x hx => ?_⟩
  ·refine ⟨h.sz.1, fun a n' c' B hv h0 hB => ?_⟩
   cases hv
   exact h.sz.2 _ _ _ B rfl (hcc h0) hB
  ·have hpos : 0 < ((cs.drop (l * s)).take ((r - l) * s)).length := List.length_pos_iff.2 hne
   have h1 : l * s + ((cs.drop (l * s)).take ((r - l) * s)).length ≤ cs.length := by
    rw [List.length_take, List.length_drop] at hpos ⊢; omega
   have := Sl.cellsM h hpos h1
   rw [e]
   rw [← e]
   have h3 : Ax.cellsM M b (off + l * s) ((cs.drop (l * s)).take ((r - l) * s)).length = some ((cs.drop (l * s)).take ((cs.drop (l * s)).take ((r - l) * s)).length) := this
   rw [← e] at h3
   have h4 : Ax.cellsM M b (off + l * s) ((cs.drop (l * s)).take ((r - l) * s)).length = some ((cs.drop (l * s)).take ((r - l) * s)) := by rw [← e]; exact h3
   rw [← e] at h4 ⊢
   exact h4
  ·have hx' : x ∈ (if c = 0 then [] else [b]) := hx
   by_cases h0 : c = 0
   ·rw [if_pos h0] at hx'; cases hx'
   ·rw [if_neg h0] at hx'
    show x ∈ (if c0 = 0 then [] else [b])
    rw [if_neg (hcc h0)]; exact hx'
theorem capSub_mono {c k : Nat} {m : Nat} (h : m ≤ capLb c) (hk : k ≤ m) : m - k ≤ capLb (capSub c k) := capSub_lb (by omega)
theorem capSub_nz {c k : Nat} (h : capSub c k ≠ 0) : c ≠ 0 := by
 rintro rfl
 exact h (by unfold capSub; rw [if_pos (by decide)]; omega)
theorem Sl.from {M : Mem} {v : Value} {s : Nat} {cs : List Value} (h : Sl M v s cs) (k : Nat) (hk : k ≤ sln v) : ∃ w, aslice v s (some (.int .i64 (k : Int))) none none = some w ∧ Sl M w s (cs.drop (k * s)) ∧ ∀ b ∈ blkOf w, b ∈ blkOf v := by
 refine ⟨subsl v s k (sln v) (capSub (scp v) k), ?_, ?_⟩
 ·unfold aslice; rw [if_pos h.isSl]
  simp [natOf, hk]
 ·have := h.sub (l := k) (r := sln v) (c := capSub (scp v) k) hk (Nat.le_refl _) (capSub_mono h.caps hk) (fun h0 => .inr (capSub_nz h0))
  rw [List.take_of_length_le (by rw [List.length_drop, ← h.len, Nat.sub_mul]; omega)] at this
  exact this
theorem Sl.to {M : Mem} {v : Value} {s : Nat} {cs : List Value} (h : Sl M v s cs) (k : Nat) (hk : k ≤ sln v) : ∃ w, aslice v s none (some (.int .i64 (k : Int))) none = some w ∧ Sl M w s (cs.take (k * s)) ∧ ∀ b ∈ blkOf w, b ∈ blkOf v := by
 have hc := Nat.le_trans hk h.caps
 refine ⟨subsl v s 0 k (capSub (scp v) 0), ?_, ?_⟩
 ·unfold aslice; rw [if_pos h.isSl]
  simp [natOf, hc]
 ·have := h.sub (l := 0) (r := k) (c := capSub (scp v) 0) (Nat.zero_le _) hk (by rw [capSub_zero]; omega) (fun h0 => .inr (capSub_nz h0))
  simpa using this
theorem Sl.mid {M : Mem} {v : Value} {s : Nat} {cs : List Value} (h : Sl M v s cs) (l r : Nat) (hl : l ≤ r) (hr : r ≤ sln v) : ∃ w, aslice v s (some (.int .i64 (l : Int))) (some (.int .i64 (r : Int))) none = some w ∧ Sl M w s ((cs.drop (l * s)).take ((r - l) * s)) ∧ ∀ b ∈ blkOf w, b ∈ blkOf v := by
 have hc := Nat.le_trans hr h.caps
 refine ⟨subsl v s l r (capSub (scp v) l), ?_, ?_⟩
 ·unfold aslice; rw [if_pos h.isSl]
  simp [natOf, hc, hl]
 ·have hx : r - l ≤ capLb (capSub (scp v) l) := capSub_mono hc hl
  exact h.sub hl hr hx (fun h0 => .inr (capSub_nz h0))
theorem AW.rangeN {P : Program} {M : Mem} {t : List Value} {ps : Array Tmp} {assign body : Code} {g : Operand} {Q : Exit → List Value → Mem → Prop} (J : Nat → Mem → Prop) (A : Nat → Value) (n : Nat) (hok : okOpd g = true) {gf : FuncId} {capt : List Value} (hg : ev t g = .func (.func gf) #[] ⟨capt⟩)
  (hps : ps.size = 1) (ht1 : tops assign = false) (ht2 : tops body = false)
  (hJ : ∀ k M' B, J k M' → J k (M'.set M.length B))
  (it : ∀ (JJ : Nat → Mem → Prop), (∀ k M', JJ k M' → J k M') → (∀ k M', k < n → JJ k M' → YieldA P M.length [A k] M' fun b M'' => b = true ∧ JJ (k + 1) M'') → ∀ M', JJ 0 M' → CallA P gf (.func (.yield M.length) #[] #[] :: capt) M' fun _ M'' => JJ n M'')
  (h0 : ∀ B, J 0 (M ++ [B]))
  (round : ∀ k M', k < n → J k M' → AW P assign (fun e t1 M1 => e = .normal ∧ M1 = M' ∧ ∀ B M'', J k M'' → M''[M.length]? = some B → AW P body (fun e t2 M2 => e = .normal ∧ M2[M.length]? = some B ∧ J (k + 1) M2) t1 M'') (setAll t (ps.toList.zip [A k])) M')
  (hend : ∀ M', J n M' → Q .normal t M') : AW P (.rangeFunc g ps assign body) Q t M := by
 refine AW.range hok hg ?_
 obtain ⟨rec, hrec⟩ : ∃ rec, rec = Blk.loop .ready none t ps assign body := ⟨_, rfl⟩
 rw [← hrec]
 refine (it (fun k M' => M'[M.length]? = some rec ∧ J k M') (fun k M' h => h.2) (fun k M' hk hJJ => ?_) _ ⟨by simp, h0 _⟩).mono ?_
 ·subst hrec
  refine YieldA.of_round hJJ.1 (by simpa using hps.symm) ht1 ht2 ?_
  refine (round k M' hk hJJ.2).mono ?_
  rintro e t1 M1 ⟨rfl, rfl, hb⟩
  have hlt : M.length < M1.length := (List.getElem?_eq_some_iff.1 hJJ.1).1
  refine ⟨rfl, hJJ.1, (hb (.loop .busy none t ps assign body) (M1.set M.length (.loop .busy none t ps assign body)) (hJ _ _ _ hJJ.2) (List.getElem?_set_self hlt)).mono ?_⟩
  rintro e t2 M2 ⟨rfl, h2, h3⟩
  have hlt2 : M.length < M2.length := (List.getElem?_eq_some_iff.1 h2).1
  exact ⟨h2, rfl, List.getElem?_set_self hlt2, hJ _ _ _ h3⟩
 ·rintro v M' ⟨h1, h2⟩
  subst hrec
  exact ⟨.ready, none, h1, by simp, hend _ (hJ _ _ _ h2)⟩
def restOf (body : Code) (l : Nat) : Code := match findLabel body l with
 | some (.seq .skip r) => r
 | some r => r
 | none => .skip
theorem AW.rest {P : Program} {Q : Exit → List Value → Mem → Prop} {t : List Value} {M : Mem} {body rest : Code} {l : Nat} (h : findLabel body l = some rest) (k : AW P (restOf body l) Q t M) : AW P rest Q t M := by
 unfold restOf at k
 rw [h] at k
 split at k
 ·rename_i r hr
  cases hr
  exact AW.seq (AW.skip k)
 ·rename_i r hr
  cases hr
  exact k
 ·rename_i hr; cases hr
theorem scopeA.goto {body : Code} {J : Nat → Nat → List Value → Mem → Prop} {n : Option Nat} {Q : Exit → List Value → Mem → Prop} {t : List Value} {M : Mem} {l : Nat} (hs : (findLabel body l).isSome = true) (m : Nat) (hm : ∀ k, n = some k → m < k) (h : J l m t M) : scopeA body J n Q (.goto l) t M := by
 unfold scopeA; simp only; rw [if_pos hs]; exact ⟨m, hm, h⟩
def lstOf : Nat → Nat → (Nat → Value) → List Value
 | _, 0, _ => []
 | i, n + 1, g => g i :: lstOf (i + 1) n g
theorem lstOf_drop (t : List Value) : ∀ (n i : Nat), i + n = t.length → lstOf i n (fun j => t.getD j undef) = t.drop i
 | 0, i, h => by rw [lstOf, List.drop_of_length_le (by omega)]
 | n + 1, i, h => by
  rw [lstOf, lstOf_drop t n (i + 1) (by omega), List.drop_eq_getElem_cons (i := i) (by omega)]
  congr 1
  rw [List.getD_eq_getElem?_getD, List.getElem?_eq_getElem (by omega)]; rfl
theorem lstOf_self (t : List Value) {n : Nat} (h : t.length = n) : lstOf 0 n (fun j => t.getD j undef) = t := by rw [lstOf_drop t n 0 (by omega)]; rfl
def twoJ (N l1 l0 : Nat) (J1 : Nat → (Nat → Value) → Mem → Prop) (J0 : (Nat → Value) → Mem → Prop) (l n : Nat) (t' : List Value) (M' : Mem) : Prop :=
 t'.length = N ∧ ((l = l1 ∧ J1 n (fun j => t'.getD j undef) M') ∨ (l = l0 ∧ J0 (fun j => t'.getD j undef) M'))
theorem AW.scopeK {P : Program} {Q : Exit → List Value → Mem → Prop} {t : List Value} {M : Mem} {body : Code} (l1 l0 N : Nat) (J1 : Nat → (Nat → Value) → Mem → Prop) (J0 : (Nat → Value) → Mem → Prop)
  (head : ∀ n f M', J1 n f M' → AW P (restOf body l1) (scopeA body (twoJ N l1 l0 J1 J0) (some n) Q) (lstOf 0 N f) M')
  (out : ∀ n f M', J0 f M' → AW P (restOf body l0) (scopeA body (twoJ N l1 l0 J1 J0) (some n) Q) (lstOf 0 N f) M')
  (h0 : (∀ n t' M', t'.length = N → J1 n (fun j => t'.getD j undef) M' → AW P (restOf body l1) (scopeA body (twoJ N l1 l0 J1 J0) none Q) t' M') → AW P body (scopeA body (twoJ N l1 l0 J1 J0) none Q) t M) : AW P (.scope body) Q t M := by
 refine AW.scope (twoJ N l1 l0 J1 J0) (h0 fun n t' M' hl hJ => ?_) fun l rest n t' M' hl hJ => ?_
 ·have := head n _ M' hJ
  rw [lstOf_self t' hl] at this
  refine this.mono fun e t2 M2 h => ?_
  cases e with
  | goto l =>
   unfold scopeA at h ⊢
   simp only at h ⊢
   split
   ·rename_i hs
    rw [if_pos hs] at h
    obtain ⟨m, _, hm⟩ := h
    exact ⟨m, (fun k hk => by cases hk), hm⟩
   ·rename_i hs
    rw [if_neg hs] at h
    exact h
  | _ => exact h
 ·obtain ⟨e, ⟨rfl, h⟩ | ⟨rfl, h⟩⟩ := hJ
  ·have := head n _ M' h
   rw [lstOf_self t' e] at this
   exact AW.rest hl this
  ·have := out n _ M' h
   rw [lstOf_self t' e] at this
   exact AW.rest hl this
theorem lstOf_zero (i : Nat) (g : Nat → Value) : lstOf i 0 g = [] := rfl
theorem lstOf_succ (i n : Nat) (g : Nat → Value) : lstOf i (n + 1) g = g i :: lstOf (i + 1) n g := rfl
theorem AH.sk {P : Program} {ops : Array Oper} {todo done : List Nat} {Ls : List (Nat × LP)} {K : List Value → Mem → Prop} {t : List Value} {M : Mem} {i : Nat} {dst : Option Tmp} {type : TypeId} {pos : String} {after : Array Edge} {op : Op} {g : Nat × Bool}
  (hw : wantA ops ⟨dst, op, type, pos, after, some g⟩ t = false) (h : ADL P ops todo (i :: done) Ls K (putT t dst undef) M) : AH P ops dst op type pos after (some g) i todo done Ls K t M := fun ho h1 h2 h3 => by
 obtain ⟨p1, _, _, p2, p3⟩ := planOk_cons ho h2
 exact AD.skip ho p1 (p2 (by simp)) hw (h h1 p3 h3) (mem_map_ls h3)
def nilB : Value → Bool
 | .slice none _ _ => true
 | _ => false
def slTy (P : Program) (t : TypeId) : Bool := match P.underlying t with
 | some (.slice _) => true
 | _ => false
theorem slTy_inv {P : Program} {t : TypeId} (h : slTy P t = true) : ∃ e, P.underlying t = some (.slice e) := by
 unfold slTy at h; split at h
 ·rename_i e he; exact ⟨e, he⟩
 ·cases h
theorem run_nil {P : Program} {t e : TypeId} (hu : P.underlying t = some (.slice e)) (b : Option Addr) (n c m d : Nat) (w : World) : (Op.equal t (.slice b n c) (.slice none m d)).run P w = .ok b.isNone w := by
 show (Op.equalIn (9999 + 1) t _ _).run P w = _
 unfold Op.equalIn
 cases b <;> simp [run_underlying hu]
theorem pure_nilS {P : Program} {ρ : Operand → Value} {o : Oper} {t yt e : TypeId} {x y : Operand} {neq : Bool} (ho : o.op = .binOp (if neq then .neq else .eql) t x y yt) (hu : P.underlying t = some (.slice e)) (hx : isSl (ρ x) = true) (hy : ρ y = .slice none 0 0) : PureA P o ρ (.bool (if neq then !nilB (ρ x) else nilB (ρ x))) := by
 intro ι ρ' hr
 have hrx := hr x (by rw [ho]; simp [Op.operands])
 have hry := hr y (by rw [ho]; simp [Op.operands])
 refine ⟨_, .bool _, fun w => ?_⟩
 rw [hy] at hry
 generalize hxx : ρ x = xv at *
 generalize h' : ρ' x = x' at *
 generalize hz : ρ' y = y' at *
 cases hry
 cases hrx <;> first | (cases hx; done) | skip
 all_goals (cases neq <;> simp [execOp, ho, hz, h', binOp, eqGuard, run_nil hu, nilB])
section
variable {P : Program} {ops : Array Oper} {todo done : List Nat} {Ls : List (Nat × LP)} {rest : List Oper} {K : List Value → Mem → Prop} {t : List Value} {M : Mem}
variable {i : Nat} {dst : Option Tmp} {type : TypeId} {pos : String} {after : Array Edge}
theorem AL.eqN {ty yt : TypeId} {x y : Operand} (hg : slTy P ty = true) (hok : okOpds ⟨dst, .binOp .eql ty x y yt, type, pos, after, none⟩ = true) (hx : isSl (ev t x) = true) (hy : ev t y = .slice none 0 0) (h : AL P ops rest K (putT t dst (.bool (nilB (ev t x)))) M) : AL P ops (⟨dst, .binOp .eql ty x y yt, type, pos, after, none⟩ :: rest) K t M := by
 obtain ⟨e, he⟩ := slTy_inv hg
 exact AL.op hok rfl (AOp.pure (pure_nilS (neq := false) rfl he hx hy) h)
theorem AL.neN {ty yt : TypeId} {x y : Operand} (hg : slTy P ty = true) (hok : okOpds ⟨dst, .binOp .neq ty x y yt, type, pos, after, none⟩ = true) (hx : isSl (ev t x) = true) (hy : ev t y = .slice none 0 0) (h : AL P ops rest K (putT t dst (.bool !(nilB (ev t x)))) M) : AL P ops (⟨dst, .binOp .neq ty x y yt, type, pos, after, none⟩ :: rest) K t M := by
 obtain ⟨e, he⟩ := slTy_inv hg
 exact AL.op hok rfl (AOp.pure (pure_nilS (neq := true) rfl he hx hy) h)
end
theorem nilB_sl {M : Mem} {v : Value} {s : Nat} {cs : List Value} (h : Sl M v s cs) (hn : nilB v = true) : v = .slice none 0 0 ∧ cs = [] := by
 rcases h.base with rfl | ⟨b, off, n, c, rfl, _, _⟩
 ·exact ⟨rfl, by have := h.len; simp [sln] at this; exact List.length_eq_zero_iff.1 this.symm⟩
 ·cases hn
section
variable {P : Program} {ops : Array Oper} {todo done : List Nat} {Ls : List (Nat × LP)} {rest : List Oper} {K : List Value → Mem → Prop} {t : List Value} {M : Mem}
variable {i : Nat} {dst : Option Tmp} {type : TypeId} {pos : String} {after : Array Edge}
theorem AH.stF {ty : TypeId} {x y : Operand} (hok : okOpd x = true) (hok' : okOpd y = true) (h : ptrK (ev t x) fun b j => ∃ B, M[b]? = some B ∧ B.ours = true ∧ tsz P ty = some (cl (ev t y)).length ∧ 0 < (cl (ev t y)).length ∧ (cl (ev t y)).all Value.oneCell' = true ∧ j + (cl (ev t y)).length ≤ B.cells.length ∧
  ((∀ p ∈ Ls, p.2.holds (M.set b (B.put (spl B.cells j (cl (ev t y)))))) ∧ ADL P ops todo (i :: done) (Ls.filter fun p => !bef ops p.1 i) K (putT t dst undef) (M.set b (B.put (spl B.cells j (cl (ev t y))))))) : AH P ops dst (.store ty x y) type pos after none i todo done Ls K t M := fun ho => by
 obtain ⟨b, j, hx, B, hB, h1, h2, h3, h4, h5, hc1, hc2⟩ := ptrK_elim h
 refine ADL.st ho hok hok' ?_
 rw [hx]
 exact ⟨B, hB, h1, h2, h3, h4, h5, fun p hp => hc1 p (List.mem_filter.1 hp).1, hc2⟩
end
theorem lsE : (∀ (P : Program) (t : TypeId) (b j : Nat) (v : Value) (M : Mem), (LP.load P t b j v).holds M = (aload P t M b j = some v)) ∧ (∀ (v : Value) (s : Nat) (M : Mem), (LP.size v s).holds M = (szOk M v s ∧ ∀ b ∈ blkOf v, b < M.length)) ∧
 (∀ (p : Nat × LP → Prop), (∀ x ∈ ([] : List (Nat × LP)), p x) = True) ∧ (∀ (p : Nat × LP → Prop) (a : Nat × LP) (l : List (Nat × LP)), (∀ x ∈ a :: l, p x) = (p a ∧ ∀ x ∈ l, p x)) ∧ (∀ (p : Nat × LP → Prop) (l l' : List (Nat × LP)), (∀ x ∈ l ++ l', p x) = ((∀ x ∈ l, p x) ∧ ∀ x ∈ l', p x)) := by
 refine ⟨fun _ _ _ _ _ _ => rfl, fun _ _ _ => rfl, fun p => by simp, fun p a l => by simp, fun p l l' => ?_⟩
 simp only [List.mem_append, eq_iff_iff]
 exact ⟨fun h => ⟨fun x hx => h x (.inl hx), fun x hx => h x (.inr hx)⟩, fun h x hx => hx.elim (h.1 x) (h.2 x)⟩
section
variable {P : Program} {ops : Array Oper} {todo done : List Nat} {Ls : List (Nat × LP)} {rest : List Oper} {K : List Value → Mem → Prop} {t : List Value} {M : Mem}
variable {i : Nat} {dst : Option Tmp} {type : TypeId} {pos : String} {after : Array Edge}
theorem AH.guEqS {ty yt : TypeId} {x y : Operand} {j : Nat} {want b : Bool} (hg : P.eqGuardType P.depth ty = false) (hy : yieldA ops t j = some b) (hb : b = want) (hok : okOpds ⟨dst, .binOp .eql ty x y yt, type, pos, after, none⟩ = true) (hx : aggB (ev t x) = true) (hy' : aggB (ev t y) = true) (h : ∃ r, aeqV P 3 ty (ev t x) (ev t y) = some r ∧ ADL P ops todo (i :: done) Ls K (putT t dst (.bool r)) M) : AH P ops dst (.binOp .eql ty x y yt) type pos after (some (j, want)) i todo done Ls K t M := fun ho h1 h2 h3 => by
 obtain ⟨r, hr, h⟩ := h
 obtain ⟨xs, hx⟩ := aggB_eq hx
 obtain ⟨ys, hy'⟩ := aggB_eq hy'
 obtain ⟨p1, p2, _, _, p3⟩ := planOk_cons ho h2
 exact AD.pure ho p1 (p2 rfl) hok (by simp [wantA, hy, hb]) (pure_eqS (o := ⟨dst, .binOp .eql ty x y yt, type, pos, after, some (j, want)⟩) (neq := false) rfl hg hx hy' (by omega) hr) (mem_map_ls h3) (h h1 p3 h3)
theorem AH.guNeS {ty yt : TypeId} {x y : Operand} {j : Nat} {want b : Bool} (hg : P.eqGuardType P.depth ty = false) (hy : yieldA ops t j = some b) (hb : b = want) (hok : okOpds ⟨dst, .binOp .neq ty x y yt, type, pos, after, none⟩ = true) (hx : aggB (ev t x) = true) (hy' : aggB (ev t y) = true) (h : ∃ r, aeqV P 3 ty (ev t x) (ev t y) = some r ∧ ADL P ops todo (i :: done) Ls K (putT t dst (.bool !r)) M) : AH P ops dst (.binOp .neq ty x y yt) type pos after (some (j, want)) i todo done Ls K t M := fun ho h1 h2 h3 => by
 obtain ⟨r, hr, h⟩ := h
 obtain ⟨xs, hx⟩ := aggB_eq hx
 obtain ⟨ys, hy'⟩ := aggB_eq hy'
 obtain ⟨p1, p2, _, _, p3⟩ := planOk_cons ho h2
 exact AD.pure ho p1 (p2 rfl) hok (by simp [wantA, hy, hb]) (pure_eqS (o := ⟨dst, .binOp .neq ty x y yt, type, pos, after, some (j, want)⟩) (neq := true) rfl hg hx hy' (by omega) hr) (mem_map_ls h3) (h h1 p3 h3)
end
attribute [push_cast] TypeDesc.slice.injEq
theorem σa {g n : Prop} (k : n) (h : n → g := by first | exact ADL.hd rfl | exact AW.label | exact blockA.here | exact blockA.exit rfl | exact And.intro (by omega) | exact AW.condT rfl rfl (by first | rfl | assumption) | exact AW.condF rfl rfl (by first | rfl | assumption) | exact AL.guT rfl (by first | rfl | assumption)) : g := h k
theorem σl {g n : Prop} (k : n) (h : n → g := by first | exact ADL.hd rfl | exact blockA.here | exact blockA.exit rfl | exact And.intro (by omega) | exact AW.condT rfl rfl (by first | rfl | assumption) | exact AW.condF rfl rfl (by first | rfl | assumption) | exact AL.guT rfl (by first | rfl | assumption)) : g := h k
theorem σn {g n : Prop} (k : n) (h : n → g := by first | exact ADL.hd rfl | exact AW.label | exact blockA.here | exact blockA.exit rfl | exact And.intro (by omega) | exact AL.guT rfl (by first | rfl | assumption)) : g := h k
theorem σb {g n : Prop} (k : n) (h : n → g := by first | exact AL.ld rfl | exact AL.bx rfl | exact AL.al | exact AL.lt rfl | exact AL.st rfl rfl | exact AL.ap rfl rfl | exact AL.clr rfl | exact AL.ca rfl | exact AL.slW (by kernel_rfl) rfl | exact AL.eqN (by kernel_rfl) rfl (by first | rfl | assumption) rfl | exact AL.neN (by kernel_rfl) rfl (by first | rfl | assumption) rfl | exact AL.eqS (by kernel_rfl) rfl rfl rfl | exact AL.neS (by kernel_rfl) rfl rfl rfl | exact AL.pu rfl | exact AL.guF rfl (by first | rfl | assumption) | exact AL.skip rfl) : g := h k
theorem σy {g n : Prop} (k : n) (h : n → g := by first | exact AL.ld rfl | exact AL.bx rfl | exact AL.al | exact AL.lt rfl | exact AL.st rfl rfl | exact AL.ap rfl rfl | exact AL.clr rfl | exact AL.slW (by kernel_rfl) rfl | exact AL.eqN (by kernel_rfl) rfl (by first | rfl | assumption) rfl | exact AL.neN (by kernel_rfl) rfl (by first | rfl | assumption) rfl | exact AL.eqS (by kernel_rfl) rfl rfl rfl | exact AL.neS (by kernel_rfl) rfl rfl rfl | exact AL.guF rfl (by first | rfl | assumption) | exact AL.skip rfl) : g := h k
theorem σc {g n : Prop} (k : n) (h : n → g := by first | exact AH.ld rfl | exact AH.bx rfl | exact AH.al | exact AH.lt rfl | exact AH.stN rfl rfl (by kernel_rfl) | exact AH.apN rfl rfl (by kernel_rfl) | exact AH.slW (by kernel_rfl) rfl | exact AH.eqS (by kernel_rfl) rfl rfl rfl | exact AH.neS (by kernel_rfl) rfl rfl rfl | exact AH.guEqS (by kernel_rfl) rfl (by first | rfl | assumption) rfl rfl rfl | exact AH.guNeS (by kernel_rfl) rfl (by first | rfl | assumption) rfl rfl rfl | exact AH.pu rfl rfl | exact AH.guF rfl (by first | rfl | assumption) | exact AH.sk rfl | exact AH.guLd rfl (by first | rfl | assumption) rfl | exact AH.guCa rfl (by first | rfl | assumption) rfl | exact AH.guPu rfl rfl (by first | rfl | assumption) rfl) : g := h k
theorem σd {g n : Prop} (k : n) (h : n → g := by first | exact AH.caN rfl (by kernel_rfl) | exact AH.ca rfl) : g := h k
abbrev PX := Int × Int
def pxs (l : List PX) : List Value := l.flatMap fun p => [.int .u32 p.1, .int .i64 p.2]
theorem pxs_length (l : List PX) : (pxs l).length = l.length * 2 := by induction l with | nil => rfl | cons x l ih => simp [pxs] at ih ⊢; omega
theorem pxs_append (l m : List PX) : pxs (l ++ m) = pxs l ++ pxs m := by simp [pxs]
def maskN (n : Int) : Nat := if n ≤ 0 then 0 else if 32 ≤ n then 32 else n.toNat
theorem maskN_le (n : Int) : maskN n ≤ 32 := by unfold maskN; split; omega; split <;> omega
def maskP (p : PX) : PX := (p.1 / 2 ^ (32 - maskN p.2) * 2 ^ (32 - maskN p.2), (maskN p.2 : Int))
def rightX (p : PX) : Prop := p = maskP p
instance (p : PX) : Decidable (rightX p) := by unfold rightX; infer_instance
theorem pow_pos32 (k : Nat) : (0 : Int) < 2 ^ k := Int.pow_pos (by decide)
theorem maskP_len (p : PX) : 0 ≤ (maskP p).2 ∧ (maskP p).2 ≤ 32 := by have := maskN_le p.2; unfold maskP; simp only; omega
theorem maskN_id {k : Nat} (h : k ≤ 32) : maskN (k : Int) = k := by
 unfold maskN
 split
 ·omega
 ·split <;> omega
theorem maskN_maskP (p : PX) : maskN (maskP p).2 = maskN p.2 := maskN_id (maskN_le p.2)
theorem maskP_right (p : PX) : rightX (maskP p) := by
 have h := maskN_maskP p
 have hp := pow_pos32 (32 - maskN p.2)
 unfold rightX
 refine Prod.ext ?_ ?_
 ·show _ = (maskP p).1 / 2 ^ (32 - maskN (maskP p).2) * 2 ^ (32 - maskN (maskP p).2)
  rw [h]
  show p.1 / 2 ^ (32 - maskN p.2) * 2 ^ (32 - maskN p.2) = p.1 / 2 ^ (32 - maskN p.2) * 2 ^ (32 - maskN p.2) / 2 ^ (32 - maskN p.2) * 2 ^ (32 - maskN p.2)
  rw [Int.mul_ediv_cancel _ (by omega)]
 ·show _ = ((maskN (maskP p).2 : Nat) : Int)
  rw [h]; rfl
theorem rightX_len {p : PX} (h : rightX p) : 0 ≤ p.2 ∧ p.2 ≤ 32 := by rw [h]; exact maskP_len p
def nbytes (n : Int) : Nat := ((n + 7) / 8).toNat
def addrBytes (a : Int) : List Int := [a / 16777216, a / 65536 % 256, a / 256 % 256, a % 256]
def sizeX (p : PX) : Nat := if rightX p then 1 + nbytes p.2 else 0
def putX (p : PX) : List Int := p.2 :: (addrBytes p.1).take (nbytes p.2)
def nlPut : List PX → Option (List Int)
 | [] => some []
 | p :: l => if rightX p then (nlPut l).map fun r => putX p ++ r else none
theorem nlPut_snoc (l : List PX) (p : PX) : nlPut (l ++ [p]) = if rightX p then (nlPut l).map fun r => r ++ putX p else none := by
 induction l with
 | nil => simp [nlPut]
 | cons q l ih =>
  simp only [List.cons_append, nlPut, ih]
  split
  ·split <;> cases nlPut l <;> simp
  ·split <;> rfl
def addrOf (xs : List Int) (n : Nat) : Int := (if 0 < n then xs.getD 0 0 * 16777216 else 0) + (if 1 < n then xs.getD 1 0 * 65536 else 0) + (if 2 < n then xs.getD 2 0 * 256 else 0) + (if 3 < n then xs.getD 3 0 else 0)
def nlRead : Nat → List Int → List PX × Int
 | 0, _ => ([], 0)
 | f + 1, xs => if xs = [] then ([], 0) else if 32 < xs.getD 0 0 then ([], 5) else if xs.length < 1 + nbytes (xs.getD 0 0) then ([], 3)
   else if (nlRead f (xs.drop (1 + nbytes (xs.getD 0 0)))).2 = 0 then (maskP (addrOf (xs.drop 1) (nbytes (xs.getD 0 0)), xs.getD 0 0) :: (nlRead f (xs.drop (1 + nbytes (xs.getD 0 0)))).1, 0) else ([], (nlRead f (xs.drop (1 + nbytes (xs.getD 0 0)))).2)
theorem nlRead_fuel : ∀ {f g : Nat} {xs : List Int}, xs.length < f → xs.length < g → nlRead f xs = nlRead g xs
 | 0, _, _, h, _ => absurd h (Nat.not_lt_zero _)
 | _, 0, _, _, h => absurd h (Nat.not_lt_zero _)
 | f + 1, g + 1, xs, h1, h2 => by
  unfold nlRead
  split
  ·rfl
  ·rename_i hne
   have hp : 0 < xs.length := List.length_pos_iff.2 hne
   rw [nlRead_fuel (f := f) (g := g) (xs := xs.drop (1 + nbytes (xs.getD 0 0))) (by rw [List.length_drop]; omega) (by rw [List.length_drop]; omega)]
def nlR (xs : List Int) : List PX × Int := nlRead (xs.length + 1) xs
end Go.Proofs.Ytbdejnnbpdgjlaa.Ax
namespace Go.Proofs.Ytbdejnnbpdgjlaa.Ax
open Go Go.RowKit
open Nat renaming reduceAdd → ν1, reduceMul → ν2, reduceLeDiff → ν3, reduceLT → ν4, reduceSub → ν5
open Int renaming reduceNe → ζ1, reduceEq → ζ2, reduceLE → ζ3, reduceLT → ζ4, reduceToNat → ζ5
set_option linter.unusedVariables false
set_option linter.unusedSimpArgs false
set_option maxRecDepth 100000
set_option maxHeartbeats 20000000
attribute [local irreducible] thenA blockA scopeA retA AL AW AD ADL AH clrK CallA apure aload bload appK ptrK fnK ares szOk planOk okOps
theorem or32 (i : Nat) (x y : Int) (hx : x % 2 ^ i = 0) (h0 : 0 ≤ x) (h1 : 0 ≤ y) (h2 : y < 2 ^ i) (h3 : x + y < 4294967296) : bits .u32 (BitVec.ofInt IntKind.u32.bits x ||| BitVec.ofInt IntKind.u32.bits y) = .int .u32 (x + y) := by
 obtain ⟨a, rfl⟩ : ∃ a : Nat, x = a := ⟨x.toNat, by omega⟩
 obtain ⟨b, rfl⟩ : ∃ b : Nat, y = b := ⟨y.toNat, by omega⟩
 have hb : b < 2 ^ i := by exact_mod_cast h2
 have ha : a % 2 ^ i = 0 := by exact_mod_cast hx
 have e : a = 2 ^ i * (a / 2 ^ i) := by have := Nat.div_add_mod a (2 ^ i); omega
 have ho : a ||| b = a + b := by rw [e]; exact (Nat.two_pow_add_eq_or_of_lt hb _).symm
 have ea : (BitVec.ofInt IntKind.u32.bits (a : Int)).toNat = a := by
  rw [BitVec.ofInt_natCast, BitVec.toNat_ofNat]
  exact Nat.mod_eq_of_lt (by show a < 2 ^ 32; omega)
 have eb : (BitVec.ofInt IntKind.u32.bits (b : Int)).toNat = b := by
  rw [BitVec.ofInt_natCast, BitVec.toNat_ofNat]
  exact Nat.mod_eq_of_lt (by show b < 2 ^ 32; omega)
 unfold bits
 rw [BitVec.toNat_or, ea, eb, ho, w_u32 (by omega) (by omega)]
 rfl
theorem word_spec (v : Value) (xs : List Int) (M : Mem) (hv : Sl M v 1 (ints .u8 xs)) (hl : 4 ≤ xs.length) (hb : ∀ x ∈ xs, 0 ≤ x ∧ x ≤ 255) : CallA Try.prog 148 [v] M fun r M' => ∃ k, r = .int .u32 k ∧ k = xs.getD 0 0 * 16777216 + xs.getD 1 0 * 65536 + xs.getD 2 0 * 256 + xs.getD 3 0 ∧ M' = M := by
 have hs := hv.isSl
 have hn := hv.lnI
 have hld := fun i h1 => hv.ldN (P := Try.prog) (ty := 5) (i := i) (by kernel_rfl) h1
 have hl0 := fun h1 => hv.ld0 (P := Try.prog) (ty := 5) (by kernel_rfl) h1
 have b0 := hb _ (getD_mem (xs := xs) (i := 0) (by omega))
 have b1 := hb _ (getD_mem (xs := xs) (i := 1) (by omega))
 have b2 := hb _ (getD_mem (xs := xs) (i := 2) (by omega))
 have b3 := hb _ (getD_mem (xs := xs) (i := 3) (by omega))
 have s24 : (2 : Int) ^ min 24 IntKind.u32.bits = 16777216 := by decide
 have s16 : (2 : Int) ^ min 16 IntKind.u32.bits = 65536 := by decide
 have s8 : (2 : Int) ^ min 8 IntKind.u32.bits = 256 := by decide
 have o24 : ∀ x y : Int, x % 16777216 = 0 → 0 ≤ x → 0 ≤ y → y < 16777216 → x + y < 4294967296 → bits .u32 (BitVec.ofInt IntKind.u32.bits x ||| BitVec.ofInt IntKind.u32.bits y) = .int .u32 (x + y) := fun x y h1 h2 h3 h4 h5 => or32 24 x y (by simpa using h1) h2 h3 (by simpa using h4) h5
 have o16 : ∀ x y : Int, x % 65536 = 0 → 0 ≤ x → 0 ≤ y → y < 65536 → x + y < 4294967296 → bits .u32 (BitVec.ofInt IntKind.u32.bits x ||| BitVec.ofInt IntKind.u32.bits y) = .int .u32 (x + y) := fun x y h1 h2 h3 h4 h5 => or32 16 x y (by simpa using h1) h2 h3 (by simpa using h4) h5
 have o8 : ∀ x y : Int, x % 256 = 0 → 0 ≤ x → 0 ≤ y → y < 256 → x + y < 4294967296 → bits .u32 (BitVec.ofInt IntKind.u32.bits x ||| BitVec.ofInt IntKind.u32.bits y) = .int .u32 (x + y) := fun x y h1 h2 h3 h4 h5 => or32 8 x y (by simpa using h1) h2 h3 (by simpa using h4) h5
 (refine CallA.of_body Try.func148 rfl (by rfl) ?_; simp only [Try.ntmps148, List.length_cons, List.length_nil, List.replicate, List.cons_append, List.nil_append, Nat.reduceSub, Nat.reduceAdd])
 (repeat (first | refine st ?_ | refine σa ?_ | (refine σb ?_; simp (disch := omega) only [push_cast, ↓reduceIte, reduceCtorEq, ν1, ν2, ν3, ν4, ν5, ζ1, ζ2, ζ3, ζ4, ζ5])))
 refine AW.dr (by rfl) [0, 1, 2, 3, 4, 5, 6, 7, 8, 9, 10, 11, 12, 13, 14, 15, 16, 17, 18, 19, 20, 21, 22] (by kernel_rfl) (by kernel_rfl) ?_
 (repeat (first | refine st ?_ | refine σa ?_ | ((first | refine σd ?_ | refine σc ?_); simp (disch := omega) only [push_cast, ↓reduceIte, reduceCtorEq, ν1, ν2, ν3, ν4, ν5, ζ1, ζ2, ζ3, ζ4, ζ5, hs, hn, hld, hl0, w_u32, s24, s16, s8, o24, o16, o8])))
 (repeat (first | refine st ?_ | refine σa ?_ | (refine σb ?_; simp (disch := omega) only [push_cast, ↓reduceIte, reduceCtorEq, ν1, ν2, ν3, ν4, ν5, ζ1, ζ2, ζ3, ζ4, ζ5])))
 ((first | refine retA.ret (by rfl) ?_ | refine retA.normal (by rfl) ?_); simp (disch := omega) only [push_cast, ↓reduceIte, reduceCtorEq, Nat.reduceAdd, Nat.reduceMul, Nat.reduceLeDiff, Nat.reduceLT, Nat.reduceSub, Int.reduceNe, Int.reduceEq, Int.reduceLE, Int.reduceLT, Int.reduceToNat])
 simp
theorem ld_last (ty : TypeId) (M : Mem) (B : Blk) (j : Nat) : aload Try.prog ty (M ++ [B]) M.length j = bload Try.prog ty B.cells j := (At.push M B).ld
theorem chunk_spec (v : Value) (M : Mem) (hs : isSl v = true) : CallA Try.prog 147 [v, .int .i64 4] M fun r M' => r = .func (.func 150) #[] #[.pointer (some ⟨M.length, 0, none⟩), .pointer (some ⟨M.length + 1, 0, none⟩)] ∧ M' = M ++ [.box [v], .box [.int .i64 4]] := by
 have hc := isSl_cl hs
 have hb : bload Try.prog 3 [.int .i64 4] 0 = some (.int .i64 4) := by
  have hu : Try.prog.underlying 3 = some (.int .i64) := by kernel_rfl
  unfold bload
  rw [hu]
  rfl
 (refine CallA.of_body Try.func147 rfl (by rfl) ?_; simp only [Try.ntmps147, List.length_cons, List.length_nil, List.replicate, List.cons_append, List.nil_append, Nat.reduceSub, Nat.reduceAdd])
 (repeat (first | refine st ?_ | refine σa ?_ | (refine σb ?_; simp (disch := omega) only [push_cast, ↓reduceIte, reduceCtorEq, ν1, ν2, ν3, ν4, ν5, ζ1, ζ2, ζ3, ζ4, ζ5, hc, ld_last, hb, Blk.cells])))
 ((first | refine retA.ret (by rfl) ?_ | refine retA.normal (by rfl) ?_); simp (disch := omega) only [push_cast, ↓reduceIte, reduceCtorEq, Nat.reduceAdd, Nat.reduceMul, Nat.reduceLeDiff, Nat.reduceLT, Nat.reduceSub, Int.reduceNe, Int.reduceEq, Int.reduceLE, Int.reduceLT, Int.reduceToNat])
 exact ⟨by simp, by simp⟩
theorem slSubN {M : Mem} {v : Value} {s : Nat} {cs : List Value} (h : Sl M v s cs) (h0 : 0 < sln v) (l r c : Nat) : isSl (subsl v s l r c) = true ∧ sln (subsl v s l r c) = r - l := by
 rcases h.base with rfl | ⟨b, off, n, c', rfl, _, _⟩
 ·exact absurd h0 (Nat.lt_irrefl _)
 ·exact ⟨rfl, rfl⟩
theorem chunk1_spec {l b1 b2 : Nat} {v : Value} {xs : List Int} {J : Nat → Mem → Prop} (hs : isSl v = true) (hn : sln v = xs.length) (hxl : xs.length ≤ 100000)
  (hJ : ∀ k M, J k M → At M b1 (.box [v]) ∧ At M b2 (.box [.int .i64 4]) ∧ Sl M v 1 (ints .u8 xs))
  (hy : ∀ k M, 4 * k < xs.length → J k M → YieldA Try.prog l [subsl v 1 (4 * k) (4 * k + min 4 (xs.length - 4 * k)) (min 4 (xs.length - 4 * k))] M fun b M' => b = true ∧ J (k + 1) M') {M : Mem} (h0 : J 0 M) :
  CallA Try.prog 150 [.func (.yield l) #[] #[], .pointer (some ⟨b1, 0, none⟩), .pointer (some ⟨b2, 0, none⟩)] M fun _ M' => J ((xs.length + 3) / 4) M' := by
 have hc := isSl_cl hs
 have hv : bload Try.prog 39 [v] 0 = some v := by
  have hu : Try.prog.underlying 39 = some (.slice 5) := by kernel_rfl
  unfold bload
  rw [hu]
  rfl
 have hb : bload Try.prog 3 [.int .i64 4] 0 = some (.int .i64 4) := by
  have hu : Try.prog.underlying 3 = some (.int .i64) := by kernel_rfl
  unfold bload
  rw [hu]
  rfl
 (refine CallA.of_body Try.func150 rfl (by rfl) ?_; simp only [Try.ntmps150, List.length_cons, List.length_nil, List.replicate, List.cons_append, List.nil_append, Nat.reduceSub, Nat.reduceAdd])
 (repeat (first | refine st ?_ | refine σa ?_ | (refine σb ?_; simp (disch := omega) only [push_cast, ↓reduceIte, reduceCtorEq, ν1, ν2, ν3, ν4, ν5, ζ1, ζ2, ζ3, ζ4, ζ5])))
 refine AW.loopF [4, 5, 6, 7, 8, 9, 10, 11, 12, 13, 14, 15, 16, 17, 18, 19, 20, 21, 22, 23, 24, 25, 26, 27, 28, 29, 30] (fun m f M' => ∃ k : Nat, f 4 = .int .i64 (4 * (k : Int)) ∧ 4 * k < xs.length + 4 ∧ 4 * k + m = xs.length + 4 ∧ J k M') (xs.length + 4) ?_ ?_
 ·exact ⟨0, rfl, by omega, by omega, h0⟩
 rintro m f M1 ⟨k, h4, hk, hm, hj⟩
 obtain ⟨a1, a2, hsl⟩ := hJ k M1 hj
 have l1 := (a1.ld (P := Try.prog) (t := 39) (j := 0)).trans hv
 have l2 := (a2.ld (P := Try.prog) (t := 3) (j := 0)).trans hb
 simp (disch := omega) only [push_cast, ↓reduceIte, reduceCtorEq, Nat.reduceAdd, Nat.reduceMul, Nat.reduceLeDiff, Nat.reduceLT, Nat.reduceSub, Int.reduceNe, Int.reduceEq, Int.reduceLE, Int.reduceLT, Int.reduceToNat, h4]
 (repeat (first | refine st ?_ | refine σa ?_ | (refine σb ?_; simp (disch := omega) only [push_cast, ↓reduceIte, reduceCtorEq, ν1, ν2, ν3, ν4, ν5, ζ1, ζ2, ζ3, ζ4, ζ5, l1, hn])))
 ((first | refine AL.gu rfl (fun hlt => ?_) (fun hlt => ?_) | refine AW.condS rfl rfl (fun hlt => ?_) (fun hlt => ?_)) <;> (try (have hlt' := hlt; simp only [Bool.not_eq_true', Bool.not_eq_false', Bool.not_true, Bool.not_false, decide_eq_true_eq, decide_eq_false_iff_not, Classical.not_not, Int.not_lt, Int.not_le, gt_iff_lt, ge_iff_le, beq_iff_eq] at hlt')))
 ·(repeat (first | refine st ?_ | refine σa ?_ | (refine σb ?_; simp (disch := omega) only [push_cast, ↓reduceIte, reduceCtorEq, ν1, ν2, ν3, ν4, ν5, ζ1, ζ2, ζ3, ζ4, ζ5])))
  have ht : (4 * (k : Int)).toNat = 4 * k := by omega
  have hcap : sln v ≤ capLb (scp v) := hsl.caps
  have hsz : szOk M1 v 1 := hsl.sz
  have hbl : ∀ b ∈ blkOf v, b < M1.length := hsl.blks
  have ha : aslice v 1 (some (.int .i64 (4 * (k : Int)))) none none = some (subsl v 1 (4 * k) xs.length (capSub (scp v) (4 * k))) := by
   unfold aslice natOf
   rw [if_pos hs]
   rw [hn] at hcap
   have h0 : (0 : Int) ≤ 4 * (k : Int) := by omega
   simp only [ht, hn, natOf, Option.bind_some, h0, if_true, true_or, and_true]
   rw [if_pos (by omega)]
  have hsub := slSubN hsl (by omega) (4 * k) xs.length (capSub (scp v) (4 * k))
  have hs2 := hsub.1
  have hn2 := hsub.2
  have hmin : ((xs.length - 4 * k : Nat) : Int) = (xs.length : Int) - 4 * k := by omega
  refine AW.dr (by rfl) [0, 1, 2, 3, 4, 5, 6] (by kernel_rfl) (by kernel_rfl) ?_
  (repeat (first | refine st ?_ | refine σa ?_ | ((first | refine σd ?_ | refine σc ?_); simp (disch := omega) only [push_cast, ↓reduceIte, reduceCtorEq, ν1, ν2, ν3, ν4, ν5, ζ1, ζ2, ζ3, ζ4, ζ5, l1, l2, hs, hn, hc, ha, hs2, hn2, Option.map_none, Option.map_some, Option.some.injEq, exists_eq_left'])))
  obtain ⟨d, hd, hd1⟩ : ∃ d : Nat, (if (xs.length : Int) - (0 + 1 + 1 + 1 + 1) * (k : Int) < 4 then (xs.length : Int) - (0 + 1 + 1 + 1 + 1) * (k : Int) else 4) = (d : Int) ∧ d = min 4 (xs.length - 4 * k) := by
   refine ⟨min 4 (xs.length - 4 * k), ?_, rfl⟩
   split <;> omega
  rw [hd]
  have ht2 : (4 * (k : Int) + (d : Int)).toNat = 4 * k + d := by omega
  have ha2 : aslice v 1 (some (.int .i64 (4 * (k : Int)))) (some (.int .i64 (4 * (k : Int) + (d : Int)))) (some (.int .i64 (4 * (k : Int) + (d : Int)))) = some (subsl v 1 (4 * k) (4 * k + d) d) := by
   have h0 : (0 : Int) ≤ 4 * (k : Int) := by omega
   have h1 : (0 : Int) ≤ 4 * (k : Int) + d := by omega
   rw [hn] at hcap
   unfold aslice
   rw [if_pos hs]
   simp only [ht, ht2, natOf, Option.bind_some, h0, h1, if_true, reduceCtorEq, if_false]
   have hcl : capLow = 4611686018427387904 := rfl
   rw [if_pos (by omega)]
   congr 2
   omega
  (repeat (first | refine st ?_ | refine σa ?_ | (refine σy ?_; simp (disch := omega) only [push_cast, ↓reduceIte, reduceCtorEq, ν1, ν2, ν3, ν4, ν5, ζ1, ζ2, ζ3, ζ4, ζ5, l1, l2, hs, hn, hc, ht, ha2, w_i64, Option.map_some, Option.some.injEq, exists_eq_left']) | (refine AL.pu rfl ?_; simp (disch := omega) only [push_cast, ↓reduceIte, reduceCtorEq, ν1, ν2, ν3, ν4, ν5, ζ1, ζ2, ζ3, ζ4, ζ5, l1, l2, hs, hn, hc, ht, ha2, w_i64, Option.map_some, Option.some.injEq, exists_eq_left']; refine id (α := AL _ _ _ _ _ _) ?_)))
  refine AL.yield rfl rfl rfl rfl (by have := hy k M1 (by omega) hj; rw [← hd1] at this; exact this) ?_
  rintro bb M2 ⟨rfl, hj2⟩
  obtain ⟨_, a3, _⟩ := hJ (k + 1) M2 hj2
  have l3 := (a3.ld (P := Try.prog) (t := 3) (j := 0)).trans hb
  (repeat (first | refine st ?_ | refine σa ?_ | (refine σb ?_; simp (disch := omega) only [push_cast, ↓reduceIte, reduceCtorEq, ν1, ν2, ν3, ν4, ν5, ζ1, ζ2, ζ3, ζ4, ζ5, l3, w_i64])))
  have e4 : Value.int .i64 (4 * (k : Int) + 4) = .int .i64 (4 * ((k + 1 : Nat) : Int)) := congrArg (Value.int .i64) (by omega)
  refine ⟨rfl, m - 4, by omega, k + 1, e4, by omega, by omega, hj2⟩
 ·(repeat (first | refine st ?_ | refine σa ?_ | (refine σb ?_; simp (disch := omega) only [push_cast, ↓reduceIte, reduceCtorEq, ν1, ν2, ν3, ν4, ν5, ζ1, ζ2, ζ3, ζ4, ζ5])))
  ((first | refine retA.ret (by rfl) ?_ | refine retA.normal (by rfl) ?_); simp (disch := omega) only [push_cast, ↓reduceIte, reduceCtorEq, Nat.reduceAdd, Nat.reduceMul, Nat.reduceLeDiff, Nat.reduceLT, Nat.reduceSub, Int.reduceNe, Int.reduceEq, Int.reduceLE, Int.reduceLT, Int.reduceToNat])
  have : k = (xs.length + 3) / 4 := by omega
  rw [← this]
  exact hj
end Go.Proofs.Ytbdejnnbpdgjlaa.Ax
