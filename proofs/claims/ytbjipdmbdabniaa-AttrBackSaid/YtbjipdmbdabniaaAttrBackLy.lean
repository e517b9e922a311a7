/- Contracts of functions over the abstract machine. No conditions: lemmas alone. -/
import Derived.Test.YtbjipdmbdabniaaAttrBackLibD
namespace Go.Proofs.Ytbjipdmbdabniaa.Ax
open Go Go.RowKit
set_option linter.unusedVariables false
set_option linter.unusedSimpArgs false
set_option maxRecDepth 100000
set_option maxHeartbeats 20000000
theorem Sl.sub {M : Mem} {v : Value} {s : Nat} {cs : List Value} (h : Sl M v s cs) {l r c : Nat} (hl : l ≤ r) (hr : r ≤ sln v) (hc : r - l ≤ capLb c) (hz : c ≠ 0 → 0 < r - l ∨ scp v ≠ 0) : Sl M (subsl v s l r c) s ((cs.drop (l * s)).take ((r - l) * s)) ∧ ∀ b ∈ blkOf (subsl v s l r c), b ∈ blkOf v := by
  have hlen := h.len
  have e : (r - l) * s = ((cs.drop (l * s)).take ((r - l) * s)).length := by
    have h1 : l * s + (r - l) * s = r * s := by rw [← Nat.add_mul]; congr 1; omega
    have h2 : r * s ≤ sln v * s := Nat.mul_le_mul_right _ hr
    rw [List.length_take, List.length_drop]
    omega
  have hone : ((cs.drop (l * s)).take ((r - l) * s)).all Value.oneCell' = true :=
    List.all_eq_true.2 fun x hx => List.all_eq_true.1 h.one x (List.mem_of_mem_drop (List.mem_of_mem_take hx))
  rcases h.base with rfl | ⟨b, off, n, c0, rfl, hb, hcap⟩
  · have hl0 : sln (.slice none 0 0) = 0 := rfl
    obtain rfl : r = 0 := by omega
    obtain rfl : l = 0 := by omega
    refine ⟨?_, fun b hb => hb⟩
    have hc0 : cs = [] := List.eq_nil_of_length_eq_zero (by rw [← hlen, hl0, Nat.zero_mul])
    subst hc0
    rw [List.drop_nil, List.take_nil]
    exact Sl.nil M h.sz.1
  · have hn : sln (.slice (some ⟨b, off, none⟩) n c0) = n := rfl
    have hcc : c ≠ 0 → c0 ≠ 0 := fun h0 => by
      rcases hz h0 with h1 | h1
      · rintro rfl
        rw [capLb_zero] at hcap
        omega
      · exact h1
    refine ⟨⟨.inr ⟨b, off + l * s, r - l, c, rfl, hb, hc⟩, e, ?_, hone, fun hne => ?_⟩, fun x hx => ?_⟩
    · refine ⟨h.sz.1, fun a n' c' B hv h0 hB => ?_⟩
      cases hv
      exact h.sz.2 _ _ _ B rfl (hcc h0) hB
    · have hpos : 0 < ((cs.drop (l * s)).take ((r - l) * s)).length := List.length_pos_iff.2 hne
      have h1 : l * s + ((cs.drop (l * s)).take ((r - l) * s)).length ≤ cs.length := by
        rw [List.length_take, List.length_drop] at hpos ⊢; omega
      have := Sl.cellsM h hpos h1
      rw [e]
      rw [← e]
      have h3 : Ax.cellsM M b (off + l * s) ((cs.drop (l * s)).take ((r - l) * s)).length = some ((cs.drop (l * s)).take ((cs.drop (l * s)).take ((r - l) * s)).length) := this
      rw [← e] at h3
      have h4 : Ax.cellsM M b (off + l * s) ((cs.drop (l * s)).take ((r - l) * s)).length = some ((cs.drop (l * s)).take ((r - l) * s)) := by rw [← e]; exact h3
      rw [← e] at h4 ⊢
      exact h4
    · have hx' : x ∈ (if c = 0 then [] else [b]) := hx
      by_cases h0 : c = 0
      · rw [if_pos h0] at hx'; cases hx'
      · rw [if_neg h0] at hx'
        show x ∈ (if c0 = 0 then [] else [b])
        rw [if_neg (hcc h0)]; exact hx'
theorem capSub_mono {c k : Nat} {m : Nat} (h : m ≤ capLb c) (hk : k ≤ m) : m - k ≤ capLb (capSub c k) := capSub_lb (by omega)
theorem capSub_nz {c k : Nat} (h : capSub c k ≠ 0) : c ≠ 0 := by
  rintro rfl
  exact h (by unfold capSub; rw [if_pos (by decide)]; omega)
theorem Sl.from {M : Mem} {v : Value} {s : Nat} {cs : List Value} (h : Sl M v s cs) (k : Nat) (hk : k ≤ sln v) : ∃ w, aslice v s (some (.int .i64 (k : Int))) none none = some w ∧ Sl M w s (cs.drop (k * s)) ∧ ∀ b ∈ blkOf w, b ∈ blkOf v := by
  refine ⟨subsl v s k (sln v) (capSub (scp v) k), ?_, ?_⟩
  · unfold aslice; rw [if_pos h.isSl]
    simp [natOf, hk]
  · have := h.sub (l := k) (r := sln v) (c := capSub (scp v) k) hk (Nat.le_refl _) (capSub_mono h.caps hk) (fun h0 => .inr (capSub_nz h0))
    rw [List.take_of_length_le (by rw [List.length_drop, ← h.len, Nat.sub_mul]; omega)] at this
    exact this
theorem Sl.to {M : Mem} {v : Value} {s : Nat} {cs : List Value} (h : Sl M v s cs) (k : Nat) (hk : k ≤ sln v) : ∃ w, aslice v s none (some (.int .i64 (k : Int))) none = some w ∧ Sl M w s (cs.take (k * s)) ∧ ∀ b ∈ blkOf w, b ∈ blkOf v := by
  have hc := Nat.le_trans hk h.caps
  refine ⟨subsl v s 0 k (capSub (scp v) 0), ?_, ?_⟩
  · unfold aslice; rw [if_pos h.isSl]
    simp [natOf, hc]
  · have := h.sub (l := 0) (r := k) (c := capSub (scp v) 0) (Nat.zero_le _) hk (by rw [capSub_zero]; omega) (fun h0 => .inr (capSub_nz h0))
    simpa using this
theorem Sl.mid {M : Mem} {v : Value} {s : Nat} {cs : List Value} (h : Sl M v s cs) (l r : Nat) (hl : l ≤ r) (hr : r ≤ sln v) : ∃ w, aslice v s (some (.int .i64 (l : Int))) (some (.int .i64 (r : Int))) none = some w ∧ Sl M w s ((cs.drop (l * s)).take ((r - l) * s)) ∧ ∀ b ∈ blkOf w, b ∈ blkOf v := by
  have hc := Nat.le_trans hr h.caps
  refine ⟨subsl v s l r (capSub (scp v) l), ?_, ?_⟩
  · unfold aslice; rw [if_pos h.isSl]
    simp [natOf, hc, hl]
  · have hx : r - l ≤ capLb (capSub (scp v) l) := capSub_mono hc hl
    exact h.sub hl hr hx (fun h0 => .inr (capSub_nz h0))
/-- A loop over a function that yields one value a round, n times; each round ends as it does. -/
theorem AW.rangeN {P : Program} {M : Mem} {t : List Value} {ps : Array Tmp} {assign body : Code} {g : Operand} {Q : Exit → List Value → Mem → Prop} (J : Nat → Mem → Prop) (A : Nat → Value) (n : Nat) (hok : okOpd g = true) {gf : FuncId} {capt : List Value} (hg : ev t g = .func (.func gf) #[] ⟨capt⟩)
    (hps : ps.size = 1) (ht1 : tops assign = false) (ht2 : tops body = false)
    (hJ : ∀ k M' B, J k M' → J k (M'.set M.length B))
    (it : ∀ (JJ : Nat → Mem → Prop), (∀ k M', JJ k M' → J k M') → (∀ k M', k < n → JJ k M' → YieldA P M.length [A k] M' fun b M'' => b = true ∧ JJ (k + 1) M'') → ∀ M', JJ 0 M' → CallA P gf (.func (.yield M.length) #[] #[] :: capt) M' fun _ M'' => JJ n M'')
    (h0 : ∀ B, J 0 (M ++ [B]))
    (round : ∀ k M', k < n → J k M' → AW P assign (fun e t1 M1 => e = .normal ∧ M1 = M' ∧ ∀ B M'', J k M'' → M''[M.length]? = some B → AW P body (fun e t2 M2 => e = .normal ∧ M2[M.length]? = some B ∧ J (k + 1) M2) t1 M'') (setAll t (ps.toList.zip [A k])) M')
    (hend : ∀ M', J n M' → Q .normal t M') : AW P (.rangeFunc g ps assign body) Q t M := by
  refine AW.range hok hg ?_
  obtain ⟨rec, hrec⟩ : ∃ rec, rec = Blk.loop .ready none t ps assign body := ⟨_, rfl⟩
  rw [← hrec]
  refine (it (fun k M' => M'[M.length]? = some rec ∧ J k M') (fun k M' h => h.2) (fun k M' hk hJJ => ?_) _ ⟨by simp, h0 _⟩).mono ?_
  · subst hrec
    refine YieldA.of_round hJJ.1 (by simpa using hps.symm) ht1 ht2 ?_
    refine (round k M' hk hJJ.2).mono ?_
    rintro e t1 M1 ⟨rfl, rfl, hb⟩
    have hlt : M.length < M1.length := (List.getElem?_eq_some_iff.1 hJJ.1).1
    refine ⟨rfl, hJJ.1, (hb (.loop .busy none t ps assign body) (M1.set M.length (.loop .busy none t ps assign body)) (hJ _ _ _ hJJ.2) (List.getElem?_set_self hlt)).mono ?_⟩
    rintro e t2 M2 ⟨rfl, h2, h3⟩
    have hlt2 : M.length < M2.length := (List.getElem?_eq_some_iff.1 h2).1
    exact ⟨h2, rfl, List.getElem?_set_self hlt2, hJ _ _ _ h3⟩
  · rintro v M' ⟨h1, h2⟩
    subst hrec
    exact ⟨.ready, none, h1, by simp, hend _ (hJ _ _ _ h2)⟩
/-! two labels: one a loop's head, one on the way out -/
def restOf (body : Code) (l : Nat) : Code := match findLabel body l with
  | some (.seq .skip r) => r
  | some r => r
  | none => .skip
theorem AW.rest {P : Program} {Q : Exit → List Value → Mem → Prop} {t : List Value} {M : Mem} {body rest : Code} {l : Nat} (h : findLabel body l = some rest) (k : AW P (restOf body l) Q t M) : AW P rest Q t M := by
  unfold restOf at k
  rw [h] at k
  split at k
  · rename_i r hr
    cases hr
    exact AW.seq (AW.skip k)
  · rename_i r hr
    cases hr
    exact k
  · rename_i hr; cases hr
theorem scopeA.goto {body : Code} {J : Nat → Nat → List Value → Mem → Prop} {n : Option Nat} {Q : Exit → List Value → Mem → Prop} {t : List Value} {M : Mem} {l : Nat} (hs : (findLabel body l).isSome = true) (m : Nat) (hm : ∀ k, n = some k → m < k) (h : J l m t M) : scopeA body J n Q (.goto l) t M := by
  unfold scopeA; simp only; rw [if_pos hs]; exact ⟨m, hm, h⟩
/-- n values, in order. -/
def lstOf : Nat → Nat → (Nat → Value) → List Value
  | _, 0, _ => []
  | i, n + 1, g => g i :: lstOf (i + 1) n g
theorem lstOf_drop (t : List Value) : ∀ (n i : Nat), i + n = t.length → lstOf i n (fun j => t.getD j undef) = t.drop i
  | 0, i, h => by rw [lstOf, List.drop_of_length_le (by omega)]
  | n + 1, i, h => by
    rw [lstOf, lstOf_drop t n (i + 1) (by omega), List.drop_eq_getElem_cons (i := i) (by omega)]
    congr 1
    rw [List.getD_eq_getElem?_getD, List.getElem?_eq_getElem (by omega)]; rfl
theorem lstOf_self (t : List Value) {n : Nat} (h : t.length = n) : lstOf 0 n (fun j => t.getD j undef) = t := by rw [lstOf_drop t n 0 (by omega)]; rfl
/-- What holds at the two labels. -/
def twoJ (N l1 l0 : Nat) (J1 : Nat → (Nat → Value) → Mem → Prop) (J0 : (Nat → Value) → Mem → Prop) (l n : Nat) (t' : List Value) (M' : Mem) : Prop :=
  t'.length = N ∧ ((l = l1 ∧ J1 n (fun j => t'.getD j undef) M') ∨ (l = l0 ∧ J0 (fun j => t'.getD j undef) M'))
theorem AW.scopeK {P : Program} {Q : Exit → List Value → Mem → Prop} {t : List Value} {M : Mem} {body : Code} (l1 l0 N : Nat) (J1 : Nat → (Nat → Value) → Mem → Prop) (J0 : (Nat → Value) → Mem → Prop)
    (head : ∀ n f M', J1 n f M' → AW P (restOf body l1) (scopeA body (twoJ N l1 l0 J1 J0) (some n) Q) (lstOf 0 N f) M')
    (out : ∀ n f M', J0 f M' → AW P (restOf body l0) (scopeA body (twoJ N l1 l0 J1 J0) (some n) Q) (lstOf 0 N f) M')
    (h0 : (∀ n t' M', t'.length = N → J1 n (fun j => t'.getD j undef) M' → AW P (restOf body l1) (scopeA body (twoJ N l1 l0 J1 J0) none Q) t' M') → AW P body (scopeA body (twoJ N l1 l0 J1 J0) none Q) t M) : AW P (.scope body) Q t M := by
  refine AW.scope (twoJ N l1 l0 J1 J0) (h0 fun n t' M' hl hJ => ?_) fun l rest n t' M' hl hJ => ?_
  · have := head n _ M' hJ
    rw [lstOf_self t' hl] at this
    refine this.mono fun e t2 M2 h => ?_
    cases e with
    | goto l =>
      unfold scopeA at h ⊢
      simp only at h ⊢
      split
      · rename_i hs
        rw [if_pos hs] at h
        obtain ⟨m, _, hm⟩ := h
        exact ⟨m, (fun k hk => by cases hk), hm⟩
      · rename_i hs
        rw [if_neg hs] at h
        exact h
    | _ => exact h
  · obtain ⟨e, ⟨rfl, h⟩ | ⟨rfl, h⟩⟩ := hJ
    · have := head n _ M' h
      rw [lstOf_self t' e] at this
      exact AW.rest hl this
    · have := out n _ M' h
      rw [lstOf_self t' e] at this
      exact AW.rest hl this
theorem lstOf_zero (i : Nat) (g : Nat → Value) : lstOf i 0 g = [] := rfl
theorem lstOf_succ (i n : Nat) (g : Nat → Value) : lstOf i (n + 1) g = g i :: lstOf (i + 1) n g := rfl
theorem AH.sk {P : Program} {ops : Array Oper} {todo done : List Nat} {Ls : List (Nat × LP)} {K : List Value → Mem → Prop} {t : List Value} {M : Mem} {i : Nat} {dst : Option Tmp} {type : TypeId} {pos : String} {after : Array Edge} {op : Op} {g : Nat × Bool}
    (hw : wantA ops ⟨dst, op, type, pos, after, some g⟩ t = false) (h : ADL P ops todo (i :: done) Ls K (putT t dst undef) M) : AH P ops dst op type pos after (some g) i todo done Ls K t M := fun ho h1 h2 h3 => by
  obtain ⟨p1, _, _, p2, p3⟩ := planOk_cons ho h2
  exact AD.skip ho p1 (p2 (by simp)) hw (h h1 p3 h3) (mem_map_ls h3)

end Go.Proofs.Ytbjipdmbdabniaa.Ax
