/- A slice that comes in whose elements hold addresses. No conditions: definitions and lemmas alone. -/
import Derived.Test.YtbdejnnbpdgjlaaPeerXLibD
import Derived.Test.YtbdejnnbpdgjlaaPeerXLibC
namespace Go.Proofs.Ytbdejnnbpdgjlaa.Ax
open Go Go.RowKit
set_option linter.unusedVariables false
set_option linter.unusedSimpArgs false
def ReadsAt {H : Type} (en : TypeId × Value → H) (P : Program) (W : World) (base : Nat) (held : Bool) (n : Nat) (t : TypeId) (K : Mem → List Value → Prop) : Prop :=
 ∀ (cs : List Value) (x : DataW H × List MemPlace), DataW.trod en P W base (fun _ => true) held n t cs = some x →
  ∀ ι (N0 : Base) M, N0.n = W.heap.size → MRel ι N0 M W → ∃ ι' X acs, (∀ b l, ι b = some l → ι' b = some l) ∧ MRel ι' N0 (M ++ X) W ∧ LRel ι' acs cs ∧ K (M ++ X) acs
def KEl (K : Mem → List Value → Prop) (sz : Nat) (M : Mem) (acs : List Value) : Prop := ∃ (v : Value) (L : List (List Value)), acs = [v] ∧ (∀ c ∈ L, K M c) ∧ L.length ≤ maxLen ∧ Sl M v sz L.flatten
theorem flatten_get {sz : Nat} : ∀ {L : List (List Value)}, (∀ c ∈ L, c.length = sz) → ∀ (i r : Nat), r < sz → L.flatten[i * sz + r]? = (L[i]?).bind fun c => c[r]?
 | [], _, i, r, _ => by simp
 | c :: L, h, 0, r, hr => by
  simp only [List.flatten_cons, Nat.zero_mul, Nat.zero_add, List.getElem?_cons_zero, Option.bind_some]
  exact List.getElem?_append_left (by rw [h c (by simp)]; exact hr)
 | c :: L, h, i + 1, r, hr => by
  have hc := h c (by simp)
  simp only [List.flatten_cons, List.getElem?_cons_succ]
  rw [List.getElem?_append_right (by rw [hc, Nat.add_mul]; omega), ← flatten_get (fun x hx => h x (by simp [hx])) i r hr]
  congr 1
  rw [hc, Nat.add_mul]
  omega
theorem flatten_length {sz : Nat} : ∀ {L : List (List Value)}, (∀ c ∈ L, c.length = sz) → L.flatten.length = L.length * sz
 | [], _ => by simp
 | c :: L, h => by
  rw [List.flatten_cons, List.length_append, h c (by simp), flatten_length (fun x hx => h x (by simp [hx])), List.length_cons, Nat.add_mul]; omega
section
variable {P : Program} {W : World} {t e : TypeId} {H : Type} {en : TypeId × Value → H} {base : Nat} {held : Bool} {K : Mem → List Value → Prop} {sz : Nat}
theorem read_els {n : Nat} {a : Addr} (hE : ReadsAt en P W base held n e K) (hk : ∀ M Y acs, K M acs → K (M ++ Y) acs) : ∀ (len : Nat), (∀ i, i < len → ∃ c x, W.cells? base (a.add (i * sz)) sz = some c ∧ DataW.trod en P W base (fun _ => true) held n e c = some x) →
  ∀ ι (N0 : Base) M, N0.n = W.heap.size → MRel ι N0 M W → ∃ (ι' : Inj) (X : Mem) (L : List (List Value)), (∀ b l, ι b = some l → ι' b = some l) ∧ MRel ι' N0 (M ++ X) W ∧ L.length = len ∧ ∀ i, i < len → ∃ c acs, L[i]? = some acs ∧ W.cells? base (a.add (i * sz)) sz = some c ∧ LRel ι' acs c ∧ K (M ++ X) acs
 | 0, _, ι, N0, M, _, hm => ⟨ι, [], [], fun _ _ h => h, by simpa using hm, rfl, fun i hi => absurd hi (Nat.not_lt_zero _)⟩
 | len + 1, hel, ι, N0, M, hN, hm => by
  obtain ⟨ι1, X1, L1, i1, m1, l1, g1⟩ := read_els hE hk len (fun i hi => hel i (by omega)) ι N0 M hN hm
  obtain ⟨c, x, hc, hx⟩ := hel len (Nat.lt_succ_self _)
  obtain ⟨ι2, X2, acs, i2, m2, r2, k2⟩ := hE c x hx ι1 N0 (M ++ X1) hN m1
  refine ⟨ι2, X1 ++ X2, L1 ++ [acs], fun b l h => i2 b l (i1 b l h), by rw [← List.append_assoc]; exact m2, by simp [l1], fun i hi => ?_⟩
  rcases Nat.lt_or_ge i len with h | h
  ·obtain ⟨c', a', h1, h2, h3, h4⟩ := g1 i h
   exact ⟨c', a', by rw [List.getElem?_append_left (by omega)]; exact h1, h2, h3.mono i2, by rw [← List.append_assoc]; exact hk _ _ _ h4⟩
  ·obtain rfl : i = len := by omega
   exact ⟨c, acs, by rw [← l1]; simp, hc, r2, by rw [← List.append_assoc]; exact k2⟩
theorem read_slice {n : Nat} (ht : P.underlying t = some (.slice e)) (he : P.cellsOf e = sz) (h0 : 0 < sz) (hk : ∀ M Y acs, K M acs → K (M ++ Y) acs) (hone : ∀ M acs, K M acs → acs.all Value.oneCell' = true ∧ acs.length = sz)
  (hE : ∀ m, ReadsAt en P W base held m e K) : ReadsAt en P W base held n t (KEl K sz) := by
 intro cs x hx ι N0 M hN hm
 rcases Go.Deep.open_slice ht hx with ⟨rfl, _⟩ | ⟨a, len, cap, m, n', D, Pl, rfl, hb, hlen, hmax, hmm, _, hel⟩
 ·exact ⟨ι, [], [.slice none 0 0], fun _ _ h => h, by simpa using hm, .cons _ _ _ _ .sliceNil .nil, _, [], rfl, by simp, by simp, Sl.nil _ h0⟩
 ·have hm' : m = cap := by simpa using hmm
  subst hm'
  rw [he] at hel
  rcases Nat.eq_zero_or_pos m with hz | hpos
  ·have hno := hm.dom M.length (Nat.le_refl _)
   subst hz
   obtain rfl : len = 0 := by omega
   refine ⟨ι.upd M.length ⟨0, 0, 0, 0⟩, [.dead], [.slice (some ⟨M.length, 0, Option.none⟩) 0 0], Inj.upd_le hno, hm.come rfl trivial, .cons _ _ _ _ (.slice M.length 0 0 0 0 ⟨0, 0, 0, 0⟩ a (by simp [Inj.upd]) (Nat.le_refl _) (.inl rfl) (.inl rfl)) .nil, _, [], rfl, by simp, by simp, ?_⟩
   exact ⟨.inr ⟨_, _, _, _, rfl, by simp, Nat.zero_le _⟩, by simp [sln], ⟨h0, fun a n c B hv hc => by cases hv; exact absurd rfl hc⟩, rfl, fun h => absurd rfl h⟩
  ·obtain ⟨ι1, X, L, i1, m1, hL, hg⟩ := read_els (hE n') hk len (fun i hi => let ⟨c, h1, h2⟩ := hel i (by omega); ⟨c, _, h1, h2⟩) ι N0 M hN hm
   have hno := m1.dom (M ++ X).length (Nat.le_refl _)
   have hLk : ∀ c ∈ L, K (M ++ X) c := by
    intro c hc
    obtain ⟨i, hi, rfl⟩ := List.mem_iff_getElem.1 hc
    obtain ⟨_, a', h1, _, _, h4⟩ := hg i (by omega)
    rw [List.getElem?_eq_getElem hi] at h1
    injection h1 with h1
    exact h1 ▸ h4
   have hLl : ∀ c ∈ L, c.length = sz := fun c hc => (hone _ _ (hLk c hc)).2
   have hon : L.flatten.all Value.oneCell' = true := by
    rw [List.all_eq_true]
    intro u hu
    obtain ⟨c, hc, hu'⟩ := List.mem_flatten.1 hu
    exact List.all_eq_true.1 (hone _ _ (hLk c hc)).1 u hu'
   have hcell : ∀ i r, i < m → r < sz → ∃ u, W.cell? (a.add (i * sz + r)) = some u := by
    intro i r hi hr
    obtain ⟨c, hc, _⟩ := hel i hi
    obtain ⟨_, h2, h3⟩ := World.cells?_some hc
    have := h3 r hr
    rw [Go.Deep.add_add] at this
    rw [this]
    exact ⟨_, List.getElem?_eq_getElem (by omega)⟩
   have hspot : a.spot = Option.none ∧ ∃ cc e f, W.heap[a.block]? = some (.cells cc e f) := by
    obtain ⟨u, h3⟩ := hcell 0 0 hpos h0
    simp only [Nat.zero_mul, Nat.add_zero, Addr.add, if_true] at h3
    unfold World.cell? at h3
    cases ho : W.heap[a.block]? with
    | none => rw [ho] at h3; cases h3
    | some o =>
     rw [ho] at h3
     cases o with
     | cells cc e f =>
      simp only at h3
      by_cases hs : a.spot.isSome = true
      ·rw [if_pos hs] at h3; cases h3
      ·exact ⟨by cases hs' : a.spot with | none => rfl | some z => rw [hs'] at hs; exact absurd rfl hs, cc, e, f, rfl⟩
     | _ => cases h3
   obtain ⟨hsp, cc, et, f, hheap⟩ := hspot
   have hadd : ∀ k, W.cell? (a.add k) = cc[a.off + k]? := by
    intro k
    unfold World.cell? Addr.add
    by_cases hk : k = 0
    ·subst hk; simp [hheap, hsp]
    ·simp [hk, hheap]
   have hlt : a.block < N0.n := by rw [hN]; exact (Array.getElem?_eq_some_iff.1 hheap).1
   let l : Loc := ⟨a.block, a.off, a.off + m * sz, sz⟩
   obtain ⟨c, hc1, hc2, hc3⟩ : ∃ c, capOk c m ∧ len ≤ capLb c ∧ c ≠ 0 := by
    by_cases hlow : m < capLow
    ·exact ⟨m, .inl rfl, by unfold capLb; rw [if_pos hlow]; exact hlen, by omega⟩
    ·exact ⟨capLow + m, .inr ⟨by omega, Nat.le_refl _⟩, by unfold capLb; rw [if_neg (by omega)]; omega, by omega⟩
   have hup := Inj.upd_le (l := l) hno
   refine ⟨ι1.upd (M ++ X).length l, X ++ [.row false sz L.flatten], [.slice (some ⟨(M ++ X).length, 0, Option.none⟩) len c], fun b y h => hup b y (i1 b y h), ?_, .cons _ _ _ _ (.slice (M ++ X).length 0 len c m l a (by simp [Inj.upd]) hlen hc1 (.inr ⟨?_, ?_⟩)) .nil, _, L, rfl, ?_, by omega, ?_⟩
   ·rw [← List.append_assoc]
    refine m1.come rfl ⟨hlt, rfl, cc, et, f, hheap, fun j u hj => ?_⟩
    have hj' := (List.getElem?_eq_some_iff.1 hj).1
    rw [flatten_length hLl] at hj'
    have hdm : j / sz * sz + j % sz = j := by rw [Nat.mul_comm]; exact Nat.div_add_mod j sz
    have hr : j % sz < sz := Nat.mod_lt _ h0
    have hi : j / sz < L.length := (Nat.div_lt_iff_lt_mul h0).2 hj'
    obtain ⟨ci, ai, g1, g2, g3, g4⟩ := hg (j / sz) (by omega)
    have h4 := flatten_get hLl (j / sz) (j % sz) hr
    rw [hdm, g1, Option.bind_some, hj] at h4
    obtain ⟨u', k1, k2⟩ := g3.get h4.symm
    obtain ⟨_, _, h3⟩ := World.cells?_some g2
    have h5 := h3 (j % sz) hr
    rw [Go.Deep.add_add, hdm, hadd, k1] at h5
    exact ⟨u', h5, k2.mono hup⟩
   ·obtain ⟨ab, ao, a3⟩ := a
    simp only at hsp
    subst hsp
    rfl
   ·show a.off + 0 + m * sz ≤ a.off + m * sz
    omega
   ·intro c hc
    rw [← List.append_assoc]
    exact hk _ _ _ (hLk c hc)
   ·rw [← List.append_assoc]
    refine ⟨.inr ⟨_, _, _, _, rfl, by simp, hc2⟩, ?_, ⟨h0, ?_⟩, hon, fun _ => ?_⟩
    ·rw [flatten_length hLl, hL]; rfl
    ·intro a' n' c' B hv _ hB
     cases hv
     simp at hB
     subst hB
     rfl
    ·unfold cellsM
     have hg : (M ++ X ++ [Blk.row false sz L.flatten])[(M ++ X).length]? = some (.row false sz L.flatten) := by simp
     show ((M ++ X ++ [Blk.row false sz L.flatten])[(M ++ X).length]?).bind _ = _
     rw [hg, Option.bind_some]
     simp only [Blk.cells, sof, Nat.zero_add, Nat.le_refl, if_true, List.drop_zero, List.take_length]
end
theorem rd_el {P : Program} {W : World} {t e : TypeId} {K : Mem → List Value → Prop} {sz : Nat} (ht : P.underlying t = some (.slice e)) (he : P.cellsOf e = sz) (h0 : 0 < sz) (hk : ∀ M Y acs, K M acs → K (M ++ Y) acs) (hone : ∀ M acs, K M acs → acs.all Value.oneCell' = true ∧ acs.length = sz) (hE : Reads P W e K) : Reads P W t (KEl K sz) :=
 fun H en base held n => read_slice ht he h0 hk hone fun m => hE H en base held m
end Go.Proofs.Ytbdejnnbpdgjlaa.Ax
