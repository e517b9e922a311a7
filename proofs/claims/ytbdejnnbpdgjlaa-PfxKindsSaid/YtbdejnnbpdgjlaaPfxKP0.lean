/- Contracts of functions over the abstract machine. No conditions: lemmas alone. -/
import Derived.Test.YtbdejnnbpdgjlaaPfxKLibD
namespace Go.Proofs.Ytbdejnnbpdgjlaa.Ax
open Go Go.RowKit
set_option linter.unusedVariables false
set_option linter.unusedSimpArgs false
set_option maxRecDepth 100000
set_option maxHeartbeats 20000000
theorem Sl.sub {M : Mem} {v : Value} {s : Nat} {cs : List Value} (h : Sl M v s cs) {l r c : Nat} (hl : l ≤ r) (hr : r ≤ sln v) (hc : r - l ≤ capLb c) (hz : c ≠ 0 → 0 < r - l ∨ scp v ≠ 0) : Sl M (subsl v s l r c) s ((cs.drop (l * s)).take ((r - l) * s)) ∧ ∀ b ∈ blkOf (subsl v s l r c), b ∈ blkOf v := by
 have hlen := h.len
 have e : (r - l) * s = ((cs.drop (l * s)).take ((r - l) * s)).length := by
  have h1 : l * s + (r - l) * s = r * s := by rw [← Nat.add_mul]; congr 1; omega
  have h2 : r * s ≤ sln v * s := Nat.mul_le_mul_right _ hr
  rw [List.length_take, List.length_drop]
  omega
 have hone : ((cs.drop (l * s)).take ((r - l) * s)).all Value.oneCell' = true :=
  List.all_eq_true.2 fun x hx => List.all_eq_true.1 h.one x (List.mem_of_mem_drop (List.mem_of_mem_take hx))
 rcases h.base with rfl | ⟨b, off, n, c0, rfl, hb, hcap⟩
 ·have hl0 : sln (.slice none 0 0) = 0 := rfl
  obtain rfl : r = 0 := by omega
  obtain rfl : l = 0 := by omega
  refine ⟨?_, fun b hb => hb⟩
  have hc0 : cs = [] := List.eq_nil_of_length_eq_zero (by rw [← hlen, hl0, Nat.zero_mul])
  subst hc0
  rw [List.drop_nil, List.take_nil]
  exact Sl.nil M h.sz.1
 ·have hn : sln (.slice (some ⟨b, off, none⟩) n c0) = n := rfl
  have hcc : c ≠ 0 → c0 ≠ 0 := fun h0 => by
   rcases hz h0 with h1 | h1
   ·rintro rfl
    rw [capLb_zero] at hcap
    omega
   ·exact h1
  refine ⟨⟨.inr ⟨b, off + l * s, r - l, c, rfl, hb, hc⟩, e, ?_, hone, fun hne => ?_⟩, fun x hx => ?_⟩
  ·refine ⟨h.sz.1, fun a n' c' B hv h0 hB => ?_⟩
   cases hv
   exact h.sz.2 _ _ _ B rfl (hcc h0) hB
  ·have hpos : 0 < ((cs.drop (l * s)).take ((r - l) * s)).length := List.length_pos_iff.2 hne
   have h1 : l * s + ((cs.drop (l * s)).take ((r - l) * s)).length ≤ cs.length := by
    rw [List.length_take, List.length_drop] at hpos ⊢; omega
   have := Sl.cellsM h hpos h1
   rw [e]
   rw [← e]
   have h3 : Ax.cellsM M b (off + l * s) ((cs.drop (l * s)).take ((r - l) * s)).length = some ((cs.drop (l * s)).take ((cs.drop (l * s)).take ((r - l) * s)).length) := this
   rw [← e] at h3
   have h4 : Ax.cellsM M b (off + l * s) ((cs.drop (l * s)).take ((r - l) * s)).length = some ((cs.drop (l * s)).take ((r - l) * s)) := by rw [← e]; exact h3
   rw [← e] at h4 ⊢
   exact h4
  ·have hx' : x ∈ (if c = 0 then [] else [b]) := hx
   by_cases h0 : c = 0
   ·rw [if_pos h0] at hx'; cases hx'
   ·rw [if_neg h0] at hx'
    show x ∈ (if c0 = 0 then [] else [b])
    rw [if_neg (hcc h0)]; exact hx'
theorem capSub_mono {c k : Nat} {m : Nat} (h : m ≤ capLb c) (hk : k ≤ m) : m - k ≤ capLb (capSub c k) := capSub_lb (by omega)
theorem capSub_nz {c k : Nat} (h : capSub c k ≠ 0) : c ≠ 0 := by
 rintro rfl
 exact h (by unfold capSub; rw [if_pos (by decide)]; omega)
theorem Sl.from {M : Mem} {v : Value} {s : Nat} {cs : List Value} (h : Sl M v s cs) (k : Nat) (hk : k ≤ sln v) : ∃ w, aslice v s (some (.int .i64 (k : Int))) none none = some w ∧ Sl M w s (cs.drop (k * s)) ∧ ∀ b ∈ blkOf w, b ∈ blkOf v := by
 refine ⟨subsl v s k (sln v) (capSub (scp v) k), ?_, ?_⟩
 ·unfold aslice; rw [if_pos h.isSl]
  simp [natOf, hk]
 ·have := h.sub (l := k) (r := sln v) (c := capSub (scp v) k) hk (Nat.le_refl _) (capSub_mono h.caps hk) (fun h0 => .inr (capSub_nz h0))
  rw [List.take_of_length_le (by rw [List.length_drop, ← h.len, Nat.sub_mul]; omega)] at this
  exact this
theorem Sl.mid {M : Mem} {v : Value} {s : Nat} {cs : List Value} (h : Sl M v s cs) (l r : Nat) (hl : l ≤ r) (hr : r ≤ sln v) : ∃ w, aslice v s (some (.int .i64 (l : Int))) (some (.int .i64 (r : Int))) none = some w ∧ Sl M w s ((cs.drop (l * s)).take ((r - l) * s)) ∧ ∀ b ∈ blkOf w, b ∈ blkOf v := by
 have hc := Nat.le_trans hr h.caps
 refine ⟨subsl v s l r (capSub (scp v) l), ?_, ?_⟩
 ·unfold aslice; rw [if_pos h.isSl]
  simp [natOf, hc, hl]
 ·have hx : r - l ≤ capLb (capSub (scp v) l) := capSub_mono hc hl
  exact h.sub hl hr hx (fun h0 => .inr (capSub_nz h0))
def restOf (body : Code) (l : Nat) : Code := match findLabel body l with
 | some (.seq .skip r) => r
 | some r => r
 | none => .skip
theorem AW.rest {P : Program} {Q : Exit → List Value → Mem → Prop} {t : List Value} {M : Mem} {body rest : Code} {l : Nat} (h : findLabel body l = some rest) (k : AW P (restOf body l) Q t M) : AW P rest Q t M := by
 unfold restOf at k
 rw [h] at k
 split at k
 ·rename_i r hr
  cases hr
  exact AW.seq (AW.skip k)
 ·rename_i r hr
  cases hr
  exact k
 ·rename_i hr; cases hr
theorem scopeA.goto {body : Code} {J : Nat → Nat → List Value → Mem → Prop} {n : Option Nat} {Q : Exit → List Value → Mem → Prop} {t : List Value} {M : Mem} {l : Nat} (hs : (findLabel body l).isSome = true) (m : Nat) (hm : ∀ k, n = some k → m < k) (h : J l m t M) : scopeA body J n Q (.goto l) t M := by
 unfold scopeA; simp only; rw [if_pos hs]; exact ⟨m, hm, h⟩
theorem AH.sk {P : Program} {ops : Array Oper} {todo done : List Nat} {Ls : List (Nat × LP)} {K : List Value → Mem → Prop} {t : List Value} {M : Mem} {i : Nat} {dst : Option Tmp} {type : TypeId} {pos : String} {after : Array Edge} {op : Op} {g : Nat × Bool}
  (hw : wantA ops ⟨dst, op, type, pos, after, some g⟩ t = false) (h : ADL P ops todo (i :: done) Ls K (putT t dst undef) M) : AH P ops dst op type pos after (some g) i todo done Ls K t M := fun ho h1 h2 h3 => by
 obtain ⟨p1, _, _, p2, p3⟩ := planOk_cons ho h2
 exact AD.skip ho p1 (p2 (by simp)) hw (h h1 p3 h3) (mem_map_ls h3)
def nilB : Value → Bool
 | .slice none _ _ => true
 | _ => false
def slTy (P : Program) (t : TypeId) : Bool := match P.underlying t with
 | some (.slice _) => true
 | _ => false
theorem slTy_inv {P : Program} {t : TypeId} (h : slTy P t = true) : ∃ e, P.underlying t = some (.slice e) := by
 unfold slTy at h; split at h
 ·rename_i e he; exact ⟨e, he⟩
 ·cases h
theorem run_nil {P : Program} {t e : TypeId} (hu : P.underlying t = some (.slice e)) (b : Option Addr) (n c m d : Nat) (w : World) : (Op.equal t (.slice b n c) (.slice none m d)).run P w = .ok b.isNone w := by
 show (Op.equalIn (9999 + 1) t _ _).run P w = _
 unfold Op.equalIn
 cases b <;> simp [run_underlying hu]
theorem pure_nilS {P : Program} {ρ : Operand → Value} {o : Oper} {t yt e : TypeId} {x y : Operand} {neq : Bool} (ho : o.op = .binOp (if neq then .neq else .eql) t x y yt) (hu : P.underlying t = some (.slice e)) (hx : isSl (ρ x) = true) (hy : ρ y = .slice none 0 0) : PureA P o ρ (.bool (if neq then !nilB (ρ x) else nilB (ρ x))) := by
 intro ι ρ' hr
 have hrx := hr x (by rw [ho]; simp [Op.operands])
 have hry := hr y (by rw [ho]; simp [Op.operands])
 refine ⟨_, .bool _, fun w => ?_⟩
 rw [hy] at hry
 generalize hxx : ρ x = xv at *
 generalize h' : ρ' x = x' at *
 generalize hz : ρ' y = y' at *
 cases hry
 cases hrx <;> first | (cases hx; done) | skip
 all_goals (cases neq <;> simp [execOp, ho, hz, h', binOp, eqGuard, run_nil hu, nilB])
section
variable {P : Program} {ops : Array Oper} {todo done : List Nat} {Ls : List (Nat × LP)} {rest : List Oper} {K : List Value → Mem → Prop} {t : List Value} {M : Mem}
variable {i : Nat} {dst : Option Tmp} {type : TypeId} {pos : String} {after : Array Edge}
theorem AL.eqN {ty yt : TypeId} {x y : Operand} (hg : slTy P ty = true) (hok : okOpds ⟨dst, .binOp .eql ty x y yt, type, pos, after, none⟩ = true) (hx : isSl (ev t x) = true) (hy : ev t y = .slice none 0 0) (h : AL P ops rest K (putT t dst (.bool (nilB (ev t x)))) M) : AL P ops (⟨dst, .binOp .eql ty x y yt, type, pos, after, none⟩ :: rest) K t M := by
 obtain ⟨e, he⟩ := slTy_inv hg
 exact AL.op hok rfl (AOp.pure (pure_nilS (neq := false) rfl he hx hy) h)
theorem AL.neN {ty yt : TypeId} {x y : Operand} (hg : slTy P ty = true) (hok : okOpds ⟨dst, .binOp .neq ty x y yt, type, pos, after, none⟩ = true) (hx : isSl (ev t x) = true) (hy : ev t y = .slice none 0 0) (h : AL P ops rest K (putT t dst (.bool !(nilB (ev t x)))) M) : AL P ops (⟨dst, .binOp .neq ty x y yt, type, pos, after, none⟩ :: rest) K t M := by
 obtain ⟨e, he⟩ := slTy_inv hg
 exact AL.op hok rfl (AOp.pure (pure_nilS (neq := true) rfl he hx hy) h)
end
section
variable {P : Program} {ops : Array Oper} {todo done : List Nat} {Ls : List (Nat × LP)} {rest : List Oper} {K : List Value → Mem → Prop} {t : List Value} {M : Mem}
variable {i : Nat} {dst : Option Tmp} {type : TypeId} {pos : String} {after : Array Edge}
end
theorem lsE : (∀ (P : Program) (t : TypeId) (b j : Nat) (v : Value) (M : Mem), (LP.load P t b j v).holds M = (aload P t M b j = some v)) ∧ (∀ (v : Value) (s : Nat) (M : Mem), (LP.size v s).holds M = (szOk M v s ∧ ∀ b ∈ blkOf v, b < M.length)) ∧
 (∀ (p : Nat × LP → Prop), (∀ x ∈ ([] : List (Nat × LP)), p x) = True) ∧ (∀ (p : Nat × LP → Prop) (a : Nat × LP) (l : List (Nat × LP)), (∀ x ∈ a :: l, p x) = (p a ∧ ∀ x ∈ l, p x)) ∧ (∀ (p : Nat × LP → Prop) (l l' : List (Nat × LP)), (∀ x ∈ l ++ l', p x) = ((∀ x ∈ l, p x) ∧ ∀ x ∈ l', p x)) := by
 refine ⟨fun _ _ _ _ _ _ => rfl, fun _ _ _ => rfl, fun p => by simp, fun p a l => by simp, fun p l l' => ?_⟩
 simp only [List.mem_append, eq_iff_iff]
 exact ⟨fun h => ⟨fun x hx => h x (.inl hx), fun x hx => h x (.inr hx)⟩, fun h x hx => hx.elim (h.1 x) (h.2 x)⟩
section
variable {P : Program} {ops : Array Oper} {todo done : List Nat} {Ls : List (Nat × LP)} {rest : List Oper} {K : List Value → Mem → Prop} {t : List Value} {M : Mem}
variable {i : Nat} {dst : Option Tmp} {type : TypeId} {pos : String} {after : Array Edge}
theorem AH.guEqS {ty yt : TypeId} {x y : Operand} {j : Nat} {want b : Bool} (hg : P.eqGuardType P.depth ty = false) (hy : yieldA ops t j = some b) (hb : b = want) (hok : okOpds ⟨dst, .binOp .eql ty x y yt, type, pos, after, none⟩ = true) (hx : aggB (ev t x) = true) (hy' : aggB (ev t y) = true) (h : ∃ r, aeqV P 3 ty (ev t x) (ev t y) = some r ∧ ADL P ops todo (i :: done) Ls K (putT t dst (.bool r)) M) : AH P ops dst (.binOp .eql ty x y yt) type pos after (some (j, want)) i todo done Ls K t M := fun ho h1 h2 h3 => by
 obtain ⟨r, hr, h⟩ := h
 obtain ⟨xs, hx⟩ := aggB_eq hx
 obtain ⟨ys, hy'⟩ := aggB_eq hy'
 obtain ⟨p1, p2, _, _, p3⟩ := planOk_cons ho h2
 exact AD.pure ho p1 (p2 rfl) hok (by simp [wantA, hy, hb]) (pure_eqS (o := ⟨dst, .binOp .eql ty x y yt, type, pos, after, some (j, want)⟩) (neq := false) rfl hg hx hy' (by omega) hr) (mem_map_ls h3) (h h1 p3 h3)
theorem AH.guNeS {ty yt : TypeId} {x y : Operand} {j : Nat} {want b : Bool} (hg : P.eqGuardType P.depth ty = false) (hy : yieldA ops t j = some b) (hb : b = want) (hok : okOpds ⟨dst, .binOp .neq ty x y yt, type, pos, after, none⟩ = true) (hx : aggB (ev t x) = true) (hy' : aggB (ev t y) = true) (h : ∃ r, aeqV P 3 ty (ev t x) (ev t y) = some r ∧ ADL P ops todo (i :: done) Ls K (putT t dst (.bool !r)) M) : AH P ops dst (.binOp .neq ty x y yt) type pos after (some (j, want)) i todo done Ls K t M := fun ho h1 h2 h3 => by
 obtain ⟨r, hr, h⟩ := h
 obtain ⟨xs, hx⟩ := aggB_eq hx
 obtain ⟨ys, hy'⟩ := aggB_eq hy'
 obtain ⟨p1, p2, _, _, p3⟩ := planOk_cons ho h2
 exact AD.pure ho p1 (p2 rfl) hok (by simp [wantA, hy, hb]) (pure_eqS (o := ⟨dst, .binOp .neq ty x y yt, type, pos, after, some (j, want)⟩) (neq := true) rfl hg hx hy' (by omega) hr) (mem_map_ls h3) (h h1 p3 h3)
end
attribute [push_cast] TypeDesc.slice.injEq
theorem σa {g n : Prop} (k : n) (h : n → g := by first | exact ADL.hd rfl | exact AW.label | exact blockA.here | exact blockA.exit rfl | exact And.intro (by omega) | exact AW.condT rfl rfl (by first | rfl | assumption) | exact AW.condF rfl rfl (by first | rfl | assumption) | exact AL.guT rfl (by first | rfl | assumption)) : g := h k
theorem σb {g n : Prop} (k : n) (h : n → g := by first | exact AL.ld rfl | exact AL.bx rfl | exact AL.al | exact AL.lt rfl | exact AL.st rfl rfl | exact AL.ap rfl rfl | exact AL.clr rfl | exact AL.ca rfl | exact AL.slW (by kernel_rfl) rfl | exact AL.eqN (by kernel_rfl) rfl (by first | rfl | assumption) rfl | exact AL.neN (by kernel_rfl) rfl (by first | rfl | assumption) rfl | exact AL.eqS (by kernel_rfl) rfl rfl rfl | exact AL.neS (by kernel_rfl) rfl rfl rfl | exact AL.pu rfl | exact AL.guF rfl (by first | rfl | assumption) | exact AL.skip rfl) : g := h k
theorem σy {g n : Prop} (k : n) (h : n → g := by first | exact AL.ld rfl | exact AL.bx rfl | exact AL.al | exact AL.lt rfl | exact AL.st rfl rfl | exact AL.ap rfl rfl | exact AL.clr rfl | exact AL.slW (by kernel_rfl) rfl | exact AL.eqN (by kernel_rfl) rfl (by first | rfl | assumption) rfl | exact AL.neN (by kernel_rfl) rfl (by first | rfl | assumption) rfl | exact AL.eqS (by kernel_rfl) rfl rfl rfl | exact AL.neS (by kernel_rfl) rfl rfl rfl | exact AL.guF rfl (by first | rfl | assumption) | exact AL.skip rfl) : g := h k
theorem σc {g n : Prop} (k : n) (h : n → g := by first | exact AH.ld rfl | exact AH.bx rfl | exact AH.al | exact AH.lt rfl | exact AH.stN rfl rfl (by kernel_rfl) | exact AH.apN rfl rfl (by kernel_rfl) | exact AH.slW (by kernel_rfl) rfl | exact AH.eqS (by kernel_rfl) rfl rfl rfl | exact AH.neS (by kernel_rfl) rfl rfl rfl | exact AH.guEqS (by kernel_rfl) rfl (by first | rfl | assumption) rfl rfl rfl | exact AH.guNeS (by kernel_rfl) rfl (by first | rfl | assumption) rfl rfl rfl | exact AH.pu rfl rfl | exact AH.guF rfl (by first | rfl | assumption) | exact AH.sk rfl | exact AH.guLd rfl (by first | rfl | assumption) rfl | exact AH.guCa rfl (by first | rfl | assumption) rfl | exact AH.guPu rfl rfl (by first | rfl | assumption) rfl) : g := h k
theorem σd {g n : Prop} (k : n) (h : n → g := by first | exact AH.caN rfl (by kernel_rfl) | exact AH.ca rfl) : g := h k
abbrev PX := Int × Int
def pxs (l : List PX) : List Value := l.flatMap fun p => [.int .u32 p.1, .int .i64 p.2]
theorem pxs_length (l : List PX) : (pxs l).length = l.length * 2 := by induction l with | nil => rfl | cons x l ih => simp [pxs] at ih ⊢; omega
theorem pxs_append (l m : List PX) : pxs (l ++ m) = pxs l ++ pxs m := by simp [pxs]
def maskN (n : Int) : Nat := if n ≤ 0 then 0 else if 32 ≤ n then 32 else n.toNat
theorem maskN_le (n : Int) : maskN n ≤ 32 := by unfold maskN; split; omega; split <;> omega
def maskP (p : PX) : PX := (p.1 / 2 ^ (32 - maskN p.2) * 2 ^ (32 - maskN p.2), (maskN p.2 : Int))
def rightX (p : PX) : Prop := p = maskP p
instance (p : PX) : Decidable (rightX p) := by unfold rightX; infer_instance
theorem pow_pos32 (k : Nat) : (0 : Int) < 2 ^ k := Int.pow_pos (by decide)
theorem maskP_len (p : PX) : 0 ≤ (maskP p).2 ∧ (maskP p).2 ≤ 32 := by have := maskN_le p.2; unfold maskP; simp only; omega
theorem maskN_id {k : Nat} (h : k ≤ 32) : maskN (k : Int) = k := by
 unfold maskN
 split
 ·omega
 ·split <;> omega
theorem maskN_maskP (p : PX) : maskN (maskP p).2 = maskN p.2 := maskN_id (maskN_le p.2)
theorem maskP_right (p : PX) : rightX (maskP p) := by
 have h := maskN_maskP p
 have hp := pow_pos32 (32 - maskN p.2)
 unfold rightX
 refine Prod.ext ?_ ?_
 ·show _ = (maskP p).1 / 2 ^ (32 - maskN (maskP p).2) * 2 ^ (32 - maskN (maskP p).2)
  rw [h]
  show p.1 / 2 ^ (32 - maskN p.2) * 2 ^ (32 - maskN p.2) = p.1 / 2 ^ (32 - maskN p.2) * 2 ^ (32 - maskN p.2) / 2 ^ (32 - maskN p.2) * 2 ^ (32 - maskN p.2)
  rw [Int.mul_ediv_cancel _ (by omega)]
 ·show _ = ((maskN (maskP p).2 : Nat) : Int)
  rw [h]; rfl
theorem rightX_len {p : PX} (h : rightX p) : 0 ≤ p.2 ∧ p.2 ≤ 32 := by rw [h]; exact maskP_len p
structure RG where
 base : PX
 ge : Int
 le : Int
deriving DecidableEq
def rgL (r : RG) : List Value := [.int .u32 r.base.1, .int .i64 r.base.2, .int .i64 r.ge, .int .i64 r.le]
def rgs (l : List RG) : List Value := l.flatMap rgL
theorem rgs_length (l : List RG) : (rgs l).length = l.length * 4 := by
 induction l with
 | nil => rfl
 | cons r l ih => show (rgL r ++ rgs l).length = _; rw [List.length_append, ih, List.length_cons]; show 4 + _ = _; omega
theorem rgs_append (l m : List RG) : rgs (l ++ m) = rgs l ++ rgs m := by simp [rgs]
def goodR (r : RG) : Prop := 0 ≤ r.base.1 ∧ r.base.1 ≤ 4294967295
def rightR (r : RG) : Prop := rightX r.base ∧ r.base.2 ≤ r.ge ∧ r.ge ≤ r.le ∧ r.le ≤ 32
instance (r : RG) : Decidable (rightR r) := by unfold rightR; infer_instance
def spanN (n : Int) : Int := 2 ^ (32 - n.toNat)
theorem spanN_pos (n : Int) : 0 < spanN n := pow_pos32 _
theorem spanN_le (n : Int) : spanN n ≤ 4294967296 := by
 unfold spanN
 have : (2 : Nat) ^ (32 - n.toNat) ≤ 2 ^ 32 := Nat.pow_le_pow_right (by omega) (by omega)
 have h : ((2 ^ (32 - n.toNat) : Nat) : Int) ≤ ((2 ^ 32 : Nat) : Int) := Int.ofNat_le.2 this
 simpa using h
def beginsP (a : Int) (p : PX) : Prop := a / spanN p.2 = p.1 / spanN p.2
instance (a : Int) (p : PX) : Decidable (beginsP a p) := by unfold beginsP; infer_instance
def inR (r : RG) (p : PX) : Prop := rightR r ∧ rightX p ∧ r.ge ≤ p.2 ∧ p.2 ≤ r.le ∧ beginsP p.1 r.base
instance (r : RG) (p : PX) : Decidable (inR r p) := by unfold inR; infer_instance
def kindR (l : List RG) (p : PX) : List Int := l.map fun r => if inR r p then 1 else 0
theorem kindR_length (l : List RG) (p : PX) : (kindR l p).length = l.length := List.length_map ..
theorem kindR_byte (l : List RG) (p : PX) : ∀ x ∈ kindR l p, 0 ≤ x ∧ x ≤ 255 := by
 intro x hx
 obtain ⟨r, _, rfl⟩ := List.mem_map.1 hx
 split <;> omega
theorem kindR_eq {l : List RG} {p q : PX} : kindR l p = kindR l q ↔ ∀ r ∈ l, (inR r p ↔ inR r q) := by
 unfold kindR
 rw [List.map_inj_left]
 constructor
 ·intro h r hr
  have := h r hr
  by_cases h1 : inR r p <;> by_cases h2 : inR r q <;> simp [h1, h2] at this ⊢
 ·intro h r hr
  by_cases h1 : inR r p
  ·rw [if_pos h1, if_pos ((h r hr).1 h1)]
  ·rw [if_neg h1, if_neg fun h2 => h1 ((h r hr).2 h2)]
def begR (r : RG) : List Int := if rightR r then r.base.1 :: (if r.base.1 + spanN r.base.2 < 4294967296 then [r.base.1 + spanN r.base.2] else []) else []
def begs (l : List RG) : List Int := 0 :: l.flatMap begR
def stepK (l : List RG) (out : List PX) (p : PX) : List PX := if kindR l p ∈ out.map (kindR l) then out else out ++ [p]
theorem stepK_twice (l : List RG) (out : List PX) (p : PX) : stepK l (stepK l out p) p = stepK l out p := by
 have h : kindR l p ∈ (stepK l out p).map (kindR l) := by
  unfold stepK
  split
  ·assumption
  ·simp
 rw [stepK, if_pos h]
def foldK (l : List RG) (out : List PX) (ps : List PX) : List PX := ps.foldl (stepK l) out
def rowK (at' : List Int) (n : Nat) : List PX := at'.map fun a => maskP (a, (n : Int))
def kindsP (l : List RG) (at' : List Int) : List PX := foldK l [] ((List.range 33).flatMap (rowK at'))
def riseL : List Int → Prop
 | [] => True
 | [_] => True
 | a :: b :: r => a ≤ b ∧ riseL (b :: r)
def riseS : List Int → Prop
 | [] => True
 | [_] => True
 | a :: b :: r => a < b ∧ riseS (b :: r)
theorem riseL_cons {a : Int} {l : List Int} (h : riseL (a :: l)) : riseL l ∧ ∀ x ∈ l, a ≤ x := by
 induction l generalizing a with
 | nil => exact ⟨trivial, by simp⟩
 | cons b l ih =>
  obtain ⟨h1, h2⟩ := h
  obtain ⟨_, h3⟩ := ih h2
  refine ⟨h2, fun x hx => ?_⟩
  rcases List.mem_cons.1 hx with rfl | hx
  ·exact h1
  ·exact Int.le_trans h1 (h3 x hx)
theorem riseS_cons {a : Int} {l : List Int} (h : riseS (a :: l)) : riseS l ∧ ∀ x ∈ l, a < x := by
 induction l generalizing a with
 | nil => exact ⟨trivial, by simp⟩
 | cons b l ih =>
  obtain ⟨h1, h2⟩ := h
  obtain ⟨_, h3⟩ := ih h2
  refine ⟨h2, fun x hx => ?_⟩
  rcases List.mem_cons.1 hx with rfl | hx
  ·exact h1
  ·exact Int.lt_trans h1 (h3 x hx)
theorem fold_rise (l : List RG) (n : Nat) : ∀ (ys zs : List Int) (out : List PX), riseL ys → riseS zs → (∀ x, x ∈ ys ↔ x ∈ zs) → foldK l out (rowK ys n) = foldK l out (rowK zs n)
 | [], zs, out, _, _, h => by
  cases zs with
  | nil => rfl
  | cons z zs => exact absurd ((h z).2 (by simp)) (by simp)
 | y :: ys, [], out, _, _, h => absurd ((h y).1 (by simp)) (by simp)
 | y :: ys, z :: zs, out, hy, hz, h => by
  obtain ⟨y1, y2⟩ := riseL_cons hy
  obtain ⟨z1, z2⟩ := riseS_cons hz
  have e : y = z := by
   have h1 := (h y).1 (by simp)
   have h2 := (h z).2 (by simp)
   rcases List.mem_cons.1 h1 with h1 | h1
   ·exact h1
   rcases List.mem_cons.1 h2 with h2 | h2
   ·exact h2.symm
   have := z2 y h1
   have := y2 z h2
   omega
  subst e
  by_cases hm : y ∈ ys
  ·have hmem : ∀ x, x ∈ ys ↔ x ∈ y :: zs := by
    intro x
    constructor
    ·intro hx; exact (h x).1 (by simp [hx])
    ·intro hx
     rcases List.mem_cons.1 ((h x).2 hx) with rfl | hx
     ·exact hm
     ·exact hx
   cases ys with
   | nil => cases hm
   | cons w ws =>
    have ew : w = y := by
     have h1 := y2 w (by simp)
     rcases List.mem_cons.1 hm with h2 | h2
     ·exact h2.symm
     ·have := (riseL_cons y1).2 y h2; omega
    subst ew
    rw [← fold_rise l n (w :: ws) (w :: zs) out y1 hz hmem]
    show foldK l (stepK l (stepK l out (maskP (w, (n : Int)))) (maskP (w, (n : Int)))) (rowK ws n) = foldK l (stepK l out (maskP (w, (n : Int)))) (rowK ws n)
    rw [stepK_twice]
  ·refine fold_rise l n ys zs _ y1 z1 fun x => ?_
   constructor
   ·intro hx
    rcases List.mem_cons.1 ((h x).1 (by simp [hx])) with rfl | h'
    ·exact absurd hx hm
    ·exact h'
   ·intro hx
    rcases List.mem_cons.1 ((h x).2 (by simp [hx])) with rfl | h'
    ·have := z2 x hx; omega
    ·exact h'
theorem kinds_rise (l : List RG) {ys zs : List Int} (hy : riseL ys) (hz : riseS zs) (h : ∀ x, x ∈ ys ↔ x ∈ zs) : kindsP l ys = kindsP l zs := by
 unfold kindsP
 have key : ∀ (ns : List Nat) (out : List PX), foldK l out (ns.flatMap (rowK ys)) = foldK l out (ns.flatMap (rowK zs)) := by
  intro ns
  induction ns with
  | nil => intro out; rfl
  | cons n ns ih =>
   intro out
   rw [List.flatMap_cons, List.flatMap_cons]
   unfold foldK at ih ⊢
   rw [List.foldl_append, List.foldl_append, ih]
   congr 1
   exact fold_rise l n ys zs out hy hz h
 exact key _ _
def leX (p q : PX) : Prop := p.2 < q.2 ∨ (p.2 = q.2 ∧ p.1 ≤ q.1)
theorem leX.refl (p : PX) : leX p p := .inr ⟨rfl, Int.le_refl _⟩
theorem leX.trans {p q r : PX} (h : leX p q) (k : leX q r) : leX p r := by unfold leX at *; omega
structure FoldK (l : List RG) (ps out : List PX) : Prop where
 dup : (out.map (kindR l)).Nodup
 sub : ∀ q ∈ out, q ∈ ps
 all : ∀ p ∈ ps, kindR l p ∈ out.map (kindR l)
 fst : ∀ q ∈ out, ∀ p ∈ ps, kindR l p = kindR l q → leX q p
theorem FoldK.step {l : List RG} {ps out : List PX} (h : FoldK l ps out) (p : PX) (hp : ∀ q ∈ ps, leX q p) : FoldK l (ps ++ [p]) (stepK l out p) := by
 unfold stepK
 split
 ·rename_i hin
  refine ⟨h.dup, fun q hq => by simp [h.sub q hq], fun q hq => ?_, fun q hq p' hp' e => ?_⟩
  ·rcases List.mem_append.1 hq with hq | hq
   ·exact h.all q hq
   ·rw [List.mem_singleton] at hq; subst hq; exact hin
  ·rcases List.mem_append.1 hp' with hp' | hp'
   ·exact h.fst q hq p' hp' e
   ·rw [List.mem_singleton] at hp'; subst hp'; exact hp q (h.sub q hq)
 ·rename_i hin
  refine ⟨?_, fun q hq => ?_, fun q hq => ?_, fun q hq p' hp' e => ?_⟩
  ·rw [List.map_append, List.nodup_append]
   refine ⟨h.dup, by simp, fun a ha b hb => ?_⟩
   simp at hb
   rintro rfl
   exact hin (hb ▸ ha)
  ·rcases List.mem_append.1 hq with hq | hq
   ·simp [h.sub q hq]
   ·rw [List.mem_singleton] at hq; subst hq; simp
  ·rw [List.map_append]
   rcases List.mem_append.1 hq with hq | hq
   ·exact List.mem_append_left _ (h.all q hq)
   ·rw [List.mem_singleton] at hq; subst hq; simp
  ·rcases List.mem_append.1 hq with hq1 | hq
   ·rcases List.mem_append.1 hp' with hp' | hp'
    ·exact h.fst q hq1 p' hp' e
    ·rw [List.mem_singleton] at hp'; subst hp'
     exact absurd (by rw [e]; exact List.mem_map_of_mem hq1) hin
   ·rw [List.mem_singleton] at hq; subst hq
    rcases List.mem_append.1 hp' with hp' | hp'
    ·exact absurd (by rw [← e]; exact h.all p' hp') hin
    ·rw [List.mem_singleton] at hp'; subst hp'; exact leX.refl _
theorem foldK_all (l : List RG) : ∀ (ps qs out : List PX), FoldK l qs out → (qs ++ ps).Pairwise leX → FoldK l (qs ++ ps) (foldK l out ps)
 | [], qs, out, h, _ => by rw [List.append_nil]; exact h
 | p :: ps, qs, out, h, hs => by
  have h1 : ∀ q ∈ qs, leX q p := fun q hq => (List.pairwise_append.1 hs).2.2 q hq p (by simp)
  have := foldK_all l ps (qs ++ [p]) (stepK l out p) (h.step p h1) (by rw [List.append_assoc]; exact hs)
  rw [List.append_assoc] at this
  exact this
theorem mask_mono {a b : Int} (n : Nat) (h : a ≤ b) : (maskP (a, (n : Int))).1 ≤ (maskP (b, (n : Int))).1 := by
 show a / 2 ^ (32 - maskN (n : Int)) * 2 ^ (32 - maskN (n : Int)) ≤ b / 2 ^ (32 - maskN (n : Int)) * 2 ^ (32 - maskN (n : Int))
 have hp := pow_pos32 (32 - maskN (n : Int))
 exact Int.mul_le_mul_of_nonneg_right (Int.ediv_le_ediv hp h) (by omega)
theorem rowK_sorted {ys : List Int} (h : riseL ys) (n : Nat) : (rowK ys n).Pairwise leX := by
 induction ys with
 | nil => exact .nil
 | cons y ys ih =>
  obtain ⟨h1, h2⟩ := riseL_cons h
  refine .cons (fun q hq => ?_) (ih h1)
  obtain ⟨a, ha, rfl⟩ := List.mem_map.1 hq
  exact .inr ⟨rfl, mask_mono n (h2 a ha)⟩
theorem rows_sorted {ys : List Int} (h : riseL ys) : ∀ (k m : Nat), k + m ≤ 33 → (((List.range' k m).flatMap (rowK ys)).Pairwise leX ∧ ∀ q ∈ (List.range' k m).flatMap (rowK ys), (k : Int) ≤ q.2)
 | k, 0, _ => ⟨.nil, by simp⟩
 | k, m + 1, hk => by
  obtain ⟨h1, h2⟩ := rows_sorted h (k + 1) m (by omega)
  have hrow : ∀ q ∈ rowK ys k, q.2 = (k : Int) := by
   intro q hq
   obtain ⟨a, _, rfl⟩ := List.mem_map.1 hq
   show ((maskN (k : Int) : Nat) : Int) = k
   rw [maskN_id (by omega)]
  rw [List.range'_succ, List.flatMap_cons]
  refine ⟨List.pairwise_append.2 ⟨rowK_sorted h k, h1, fun a ha b hb => .inl ?_⟩, fun q hq => ?_⟩
  ·have := hrow a ha; have := h2 b hb; omega
  ·rcases List.mem_append.1 hq with hq | hq
   ·rw [hrow q hq]; omega
   ·have := h2 q hq; omega
def allK (ys : List Int) : List PX := (List.range 33).flatMap (rowK ys)
theorem kinds_fold (l : List RG) {ys : List Int} (h : riseL ys) : FoldK l (allK ys) (kindsP l ys) := by
 have h0 : FoldK l [] [] := ⟨.nil, by simp, by simp, by simp⟩
 have := foldK_all l (allK ys) [] [] h0 (by rw [List.nil_append]; unfold allK; rw [List.range_eq_range']; exact (rows_sorted h 0 33 (by omega)).1)
 rw [List.nil_append] at this
 exact this
theorem allK_right {ys : List Int} {q : PX} (h : q ∈ allK ys) : rightX q := by
 obtain ⟨n, _, hq⟩ := List.mem_flatMap.1 h
 obtain ⟨a, _, rfl⟩ := List.mem_map.1 hq
 exact maskP_right _
theorem floor_max : ∀ {ys : List Int} {x : Int}, (∃ a ∈ ys, a ≤ x) → ∃ a ∈ ys, a ≤ x ∧ ∀ b ∈ ys, b ≤ x → b ≤ a
 | [], _, ⟨_, h, _⟩ => by cases h
 | y :: ys, x, h => by
  by_cases hr : ∃ a ∈ ys, a ≤ x
  ·obtain ⟨a, ha, h1, h2⟩ := floor_max hr
   by_cases hy : y ≤ x ∧ a < y
   ·refine ⟨y, by simp, hy.1, fun b hb hbx => ?_⟩
    rcases List.mem_cons.1 hb with rfl | hb
    ·omega
    ·have := h2 b hb hbx; omega
   ·refine ⟨a, by simp [ha], h1, fun b hb hbx => ?_⟩
    rcases List.mem_cons.1 hb with rfl | hb
    ·omega
    ·exact h2 b hb hbx
  ·obtain ⟨a, ha, h1⟩ := h
   rcases List.mem_cons.1 ha with rfl | ha
   ·refine ⟨a, by simp, h1, fun b hb hbx => ?_⟩
    rcases List.mem_cons.1 hb with rfl | hb
    ·omega
    ·exact absurd ⟨b, hb, hbx⟩ hr
   ·exact absurd ⟨a, ha, h1⟩ hr
theorem span_split {m n : Int} (h0 : 0 ≤ m) (h : m ≤ n) (h32 : n ≤ 32) : ∃ c : Int, spanN m = c * spanN n := by
 refine ⟨2 ^ (n.toNat - m.toNat), ?_⟩
 unfold spanN
 rw [show 32 - m.toNat = (n.toNat - m.toNat) + (32 - n.toNat) by omega, Int.pow_add]
theorem right_span {p : PX} (h : rightX p) : p.1 = p.1 / spanN p.2 * spanN p.2 ∧ 0 ≤ p.2 ∧ p.2 ≤ 32 := by
 obtain ⟨h0, h32⟩ := rightX_len h
 refine ⟨?_, h0, h32⟩
 have e : maskN p.2 = p.2.toNat := by unfold maskN; split; omega; split <;> omega
 have := congrArg Prod.fst h
 show p.1 = p.1 / 2 ^ (32 - p.2.toNat) * 2 ^ (32 - p.2.toNat)
 rw [← e]; exact this
theorem kind_of {l : List RG} {ys : List Int} (hm : ∀ x, x ∈ ys ↔ x ∈ begs l) {p : PX} (hp : rightX p) (h0 : 0 ≤ p.1) (h1 : p.1 ≤ 4294967295) : ∃ q ∈ allK ys, kindR l q = kindR l p ∧ leX q p := by
 obtain ⟨hw, n0, n32⟩ := right_span hp
 obtain ⟨W, hW⟩ : ∃ W, W = spanN p.2 := ⟨_, rfl⟩
 have hWp : 0 < W := by rw [hW]; exact spanN_pos _
 rw [← hW] at hw
 obtain ⟨a, ha, hap, hmax⟩ := floor_max (ys := ys) (x := p.1) ⟨0, (hm 0).2 (by simp [begs]), h0⟩
 have eN : maskN p.2 = p.2.toNat := by unfold maskN; split; omega; split <;> omega
 have eq : maskP (a, p.2) = (a / W * W, p.2) := by
  unfold maskP
  simp only [eN]
  rw [hW]; unfold spanN
  refine Prod.ext rfl ?_
  show ((p.2.toNat : Nat) : Int) = p.2
  omega
 have hle : a / W * W ≤ a := Int.ediv_mul_le a (by omega)
 refine ⟨(a / W * W, p.2), ?_, ?_, .inr ⟨rfl, by show a / W * W ≤ p.1; omega⟩⟩
 ·refine List.mem_flatMap.2 ⟨p.2.toNat, by rw [List.mem_range]; omega, ?_⟩
  refine List.mem_map.2 ⟨a, ha, ?_⟩
  rw [show ((p.2.toNat : Nat) : Int) = p.2 by omega, eq]
 have hq : rightX (a / W * W, p.2) := by rw [← eq]; exact maskP_right _
 have hmul : ∀ m : Int, m * W ≤ a → m * W ≤ a / W * W := fun m h => Int.mul_le_mul_of_nonneg_right (Int.le_ediv_of_mul_le hWp h) (by omega)
 rw [kindR_eq]
 intro r hr
 have key : rightR r → r.ge ≤ p.2 → p.2 ≤ r.le → (beginsP (a / W * W) r.base ↔ beginsP p.1 r.base) := by
  intro hR hg hl
  obtain ⟨hb, b0, b32⟩ := right_span hR.1
  obtain ⟨B, hB⟩ : ∃ B, B = spanN r.base.2 := ⟨_, rfl⟩
  have hBp : 0 < B := by rw [hB]; exact spanN_pos _
  rw [← hB] at hb
  obtain ⟨c, hc⟩ := span_split b0 (show r.base.2 ≤ p.2 from Int.le_trans hR.2.1 hg) n32
  rw [← hB, ← hW] at hc
  obtain ⟨k, hk⟩ : ∃ k, k = r.base.1 / B := ⟨_, rfl⟩
  rw [← hk] at hb
  have hbeg : begR r = r.base.1 :: (if r.base.1 + B < 4294967296 then [r.base.1 + B] else []) := by unfold begR; rw [if_pos hR, hB]
  have in1 : r.base.1 ∈ ys := (hm _).2 (by
   unfold begs
   refine List.mem_cons_of_mem _ (List.mem_flatMap.2 ⟨r, hr, ?_⟩)
   rw [hbeg]; simp)
  have in2 : r.base.1 + B < 4294967296 → r.base.1 + B ∈ ys := fun h => (hm _).2 (by
   unfold begs
   refine List.mem_cons_of_mem _ (List.mem_flatMap.2 ⟨r, hr, ?_⟩)
   rw [hbeg, if_pos h]; simp)
  have inB : ∀ x : Int, beginsP x r.base ↔ r.base.1 ≤ x ∧ x < r.base.1 + B := by
   intro x
   unfold beginsP
   rw [← hB, ← hk]
   constructor
   ·intro h
    have g1 := Int.ediv_mul_le x (show B ≠ 0 by omega)
    have g2 := Int.lt_ediv_add_one_mul_self x hBp
    rw [h] at g1 g2
    rw [Int.add_mul, Int.one_mul] at g2
    omega
   ·rintro ⟨g1, g2⟩
    rw [hb] at g1 g2
    have e1 := Int.le_ediv_of_mul_le hBp g1
    have e2 : x / B < k + 1 := Int.ediv_lt_of_lt_mul hBp (by rw [Int.add_mul, Int.one_mul]; exact g2)
    omega
  rw [inB, inB]
  have ec : r.base.1 = (k * c) * W := by rw [hb, hc, Int.mul_assoc]
  have ee : r.base.1 + B = (k * c + c) * W := by rw [Int.add_mul, ← ec, ← hc]
  constructor
  ·rintro ⟨g1, g2⟩
   refine ⟨by omega, ?_⟩
   rcases Int.lt_or_le p.1 (r.base.1 + B) with h | h
   ·exact h
   ·have := hmax _ (in2 (by omega)) h
    rw [ee] at this
    have := hmul _ this
    rw [← ee] at this
    omega
  ·rintro ⟨g1, g2⟩
   have := hmax _ in1 g1
   rw [ec] at this
   have := hmul _ this
   rw [← ec] at this
   exact ⟨this, by omega⟩
 unfold inR
 constructor
 ·rintro ⟨hR, _, hg, hl, hbg⟩
  exact ⟨hR, hp, hg, hl, (key hR hg hl).1 hbg⟩
 ·rintro ⟨hR, _, hg, hl, hbg⟩
  exact ⟨hR, hq, hg, hl, (key hR hg hl).2 hbg⟩
theorem nodup_count {α β : Type} [DecidableEq β] (f : α → β) : ∀ {l : List α}, (l.map f).Nodup → ∀ b, b ∈ l.map f → (l.filter fun x => decide (f x = b)).length = 1
 | [], _, b, h => by simp at h
 | x :: l, hn, b, h => by
  rw [List.map_cons, List.nodup_cons] at hn
  by_cases c : f x = b
  ·have : l.filter (fun x => decide (f x = b)) = [] := by
    rw [List.filter_eq_nil_iff]
    intro y hy
    have : f y ≠ b := fun e => hn.1 (by rw [c, ← e]; exact List.mem_map_of_mem hy)
    simpa using this
   simp [c, this]
  ·have hb : b ∈ l.map f := by
    rcases List.mem_cons.1 h with h | h
    ·exact absurd h.symm c
    ·exact h
   rw [List.filter_cons_of_neg (by simpa using c)]
   exact nodup_count f hn.2 b hb
theorem kinds_one {l : List RG} {ys : List Int} (hr : riseL ys) (hm : ∀ x, x ∈ ys ↔ x ∈ begs l) {p : PX} (hp : rightX p) (h0 : 0 ≤ p.1) (h1 : p.1 ≤ 4294967295) :
  ((kindsP l ys).filter fun q => decide (kindR l q = kindR l p)).length = 1 ∧ (∀ q ∈ kindsP l ys, rightX q) ∧ ∀ q ∈ kindsP l ys, kindR l q = kindR l p → leX q p := by
 have F := kinds_fold l hr
 obtain ⟨q0, hq0, e0, l0⟩ := kind_of hm hp h0 h1
 refine ⟨nodup_count (kindR l) F.dup _ (by rw [← e0]; exact F.all q0 hq0), fun q hq => allK_right (F.sub q hq), fun q hq e => ?_⟩
 exact leX.trans (F.fst q hq q0 hq0 (by rw [e0, e])) l0
end Go.Proofs.Ytbdejnnbpdgjlaa.Ax
