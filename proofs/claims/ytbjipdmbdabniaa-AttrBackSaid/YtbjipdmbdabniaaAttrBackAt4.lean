/- Contracts of functions over the abstract machine. No conditions: lemmas alone. -/
import Derived.Test.YtbjipdmbdabniaaAttrBackLibD
import Derived.Test.YtbjipdmbdabniaaAttrBackAt3
namespace Go.Proofs.Ytbjipdmbdabniaa.Ax
open Go Go.RowKit
set_option linter.unusedVariables false
set_option linter.unusedSimpArgs false
set_option maxRecDepth 100000
set_option maxHeartbeats 20000000
/-! each number once, rising -/
def insU (x : Int) : List Int → List Int
  | [] => [x]
  | y :: l => if x < y then x :: y :: l else if x = y then y :: l else y :: insU x l
def uniq (xs : List Int) : List Int := xs.foldl (fun l x => insU x l) []
theorem insU_mem {x z : Int} : ∀ {l : List Int}, z ∈ insU x l ↔ z = x ∨ z ∈ l
  | [] => by simp [insU]
  | y :: l => by
    unfold insU
    split
    · simp
    · split
      · rename_i h; subst h; simp
      · rw [List.mem_cons, insU_mem (l := l), List.mem_cons]
        constructor
        · rintro (h | h | h)
          · exact .inr (.inl h)
          · exact .inl h
          · exact .inr (.inr h)
        · rintro (h | h | h)
          · exact .inr (.inl h)
          · exact .inl h
          · exact .inr (.inr h)
theorem insU_rise {x : Int} : ∀ {l : List Int}, l.Pairwise (· < ·) → (insU x l).Pairwise (· < ·)
  | [], _ => by simp [insU]
  | y :: l, h => by
    unfold insU
    obtain ⟨h1, h2⟩ := List.pairwise_cons.1 h
    split
    · rename_i hx
      refine List.pairwise_cons.2 ⟨fun z hz => ?_, h⟩
      rcases List.mem_cons.1 hz with rfl | hz
      · exact hx
      · have := h1 z hz; omega
    · split
      · exact h
      · refine List.pairwise_cons.2 ⟨fun z hz => ?_, insU_rise h2⟩
        rcases insU_mem.1 hz with rfl | hz
        · omega
        · exact h1 z hz
theorem uniq_fold : ∀ (xs l : List Int), l.Pairwise (· < ·) → (xs.foldl (fun l x => insU x l) l).Pairwise (· < ·) ∧ ∀ z, z ∈ xs.foldl (fun l x => insU x l) l ↔ z ∈ l ∨ z ∈ xs
  | [], l, h => ⟨h, by simp⟩
  | x :: xs, l, h => by
    obtain ⟨h1, h2⟩ := uniq_fold xs (insU x l) (insU_rise h)
    refine ⟨h1, fun z => ?_⟩
    rw [List.foldl_cons, h2, insU_mem, List.mem_cons]
    constructor
    · rintro ((h | h) | h)
      · exact .inr (.inl h)
      · exact .inl h
      · exact .inr (.inr h)
    · rintro (h | h | h)
      · exact .inl (.inr h)
      · exact .inl (.inl h)
      · exact .inr h
theorem uniq_rise (xs : List Int) : (uniq xs).Pairwise (· < ·) := (uniq_fold xs [] .nil).1
theorem uniq_mem {xs : List Int} {z : Int} : z ∈ uniq xs ↔ z ∈ xs := by unfold uniq; rw [(uniq_fold xs [] .nil).2]; simp
theorem rise_ext : ∀ {l m : List Int}, l.Pairwise (· < ·) → m.Pairwise (· < ·) → (∀ z, z ∈ l ↔ z ∈ m) → l = m
  | [], [], _, _, _ => rfl
  | [], y :: m, _, _, h => by have := (h y).2 (by simp); simp at this
  | x :: l, [], _, _, h => by have := (h x).1 (by simp); simp at this
  | x :: l, y :: m, h1, h2, h => by
    obtain ⟨a1, a2⟩ := List.pairwise_cons.1 h1
    obtain ⟨b1, b2⟩ := List.pairwise_cons.1 h2
    have hxy : x = y := by
      have e1 := List.mem_cons.1 ((h x).1 (by simp))
      have e2 := List.mem_cons.1 ((h y).2 (by simp))
      rcases e1 with e1 | e1
      · exact e1
      · rcases e2 with e2 | e2
        · exact e2.symm
        · have := b1 x e1; have := a1 y e2; omega
    subst hxy
    congr 1
    refine rise_ext a2 b2 fun z => ⟨fun hz => ?_, fun hz => ?_⟩
    · rcases List.mem_cons.1 ((h z).1 (List.mem_cons_of_mem _ hz)) with e | e
      · have := a1 z hz; omega
      · exact e
    · rcases List.mem_cons.1 ((h z).2 (List.mem_cons_of_mem _ hz)) with e | e
      · have := b1 z hz; omega
      · exact e
theorem uniq_eq {l xs : List Int} (h : l.Pairwise (· < ·)) (hm : ∀ z, z ∈ l ↔ z ∈ xs) : l = uniq xs := rise_ext h (uniq_rise xs) fun z => (hm z).trans uniq_mem.symm
theorem ddN_uniq {xs ys : List Int} (hp : ys.Perm xs) (hs : SortOn 0 ys.length ys) : ddN ys ys.length = uniq xs := by
  refine uniq_eq (ddN_rise hs) fun z => ?_
  rw [ddN_mem]
  constructor
  · rintro ⟨q, h1, rfl⟩; exact hp.subset (getD_mem h1)
  · intro h
    obtain ⟨q, hq, e⟩ := List.mem_iff_getElem.1 (hp.symm.subset h)
    exact ⟨q, hq, (getD_lt hq).trans e⟩
/-- An attribute's value is taken in. -/
def takeP (a : AV) (k : Int) (v : List Int) : AV × Int :=
  if lenP k v.length = false then (a, 5)
  else if k = 1 then (if v.getD 0 0 > 2 then (a, 6) else ({ a with origin := v.getD 0 0 }, 0))
  else if k = 2 then (match pathP v with
    | none => (a, 11)
    | some l => ({ a with path := l }, 0))
  else if k = 3 then (if wordAt v 0 = 0 ∨ wordAt v 0 ≥ 3758096384 then (a, 8) else ({ a with hop := wordAt v 0 }, 0))
  else if k = 4 then ({ a with med := wordAt v 0, hasMed := true }, 0)
  else if k = 5 then ({ a with pref := wordAt v 0, hasPref := true }, 0)
  else if k = 8 then (if (uniq (words v (v.length / 4))).length > 255 then (a, 9) else ({ a with comms := uniq (words v (v.length / 4)) }, 0))
  else (a, 0)
/-- An Attrs variable; its slices lie from lo on. -/
def AVbox (M : Mem) (s lo : Nat) (a : AV) : Prop := ∃ p c, At M s (.box [.int .i64 a.origin, p, .int .u32 a.hop, .int .u32 a.med, .int .u32 a.pref, .bool a.hasMed, .bool a.hasPref, c]) ∧ Sl M p 1 (ints .u32 a.path) ∧ Sl M c 1 (ints .u32 a.comms) ∧ (∀ b ∈ blkOf p, lo ≤ b) ∧ ∀ b ∈ blkOf c, lo ≤ b
theorem Sl.boxSet {M : Mem} {v : Value} {k : Nat} {cs : List Value} {s : Nat} {B : Blk} (h : Sl M v k cs) (hs : s ∉ blkOf v) : Sl (M.set s B) v k cs := h.keep (Fr.set M s B) (by intro b hb hx; simp at hx; subst hx; exact hs hb)

end Go.Proofs.Ytbjipdmbdabniaa.Ax
