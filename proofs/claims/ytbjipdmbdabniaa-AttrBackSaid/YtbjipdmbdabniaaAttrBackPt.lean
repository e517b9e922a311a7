/- Contracts of functions over the abstract machine. No conditions: lemmas alone. -/
import Derived.Test.YtbjipdmbdabniaaAttrBackLibD
import Derived.Test.YtbjipdmbdabniaaAttrBackRd
import Derived.Test.YtbjipdmbdabniaaAttrBackT1
namespace Go.Proofs.Ytbjipdmbdabniaa.Ax
open Go Go.RowKit
set_option linter.unusedVariables false
set_option linter.unusedSimpArgs false
set_option maxRecDepth 100000
set_option maxHeartbeats 20000000
/-! attributes in bytes -/
def oneP (fl k : Int) (v : List Int) : List Int := if v.length > 255 then (fl + 16) :: k :: ((v.length / 256 : Nat) : Int) :: ((v.length % 256 : Nat) : Int) :: v else fl :: k :: (v.length : Int) :: v
def pathB (p : List Int) : List Int := if p = [] then [] else 2 :: (p.length : Int) :: foursL p
def putP (a : AV) : List Int := oneP 64 1 [a.origin] ++ oneP 64 2 (pathB a.path) ++ oneP 64 3 (foursL [a.hop]) ++ (if a.hasMed = true then oneP 128 4 (foursL [a.med]) else []) ++ (if a.hasPref = true then oneP 64 5 (foursL [a.pref]) else []) ++ (if a.comms = [] then [] else oneP 192 8 (foursL a.comms))
def rightP (a : AV) : Prop := a.comms.Pairwise (· < ·) ∧ a.path.length ≤ 255 ∧ a.comms.length ≤ 255 ∧ 0 ∉ a.path ∧ 0 ≤ a.origin ∧ a.origin ≤ 2 ∧ a.hop ≠ 0 ∧ a.hop < 3758096384 ∧ (a.hasMed = false → a.med = 0) ∧ (a.hasPref = false → a.pref = 0)
instance (a : AV) : Decidable (rightP a) := by unfold rightP; infer_instance
def u32 (x : Int) : Prop := 0 ≤ x ∧ x ≤ 4294967295
def goodAV (a : AV) : Prop := (∀ x ∈ a.path, u32 x) ∧ u32 a.hop ∧ u32 a.med ∧ u32 a.pref ∧ ∀ x ∈ a.comms, u32 x
theorem foursL_cons (x : Int) (xs : List Int) : foursL (x :: xs) = [x / 16777216, x / 65536 % 256, x / 256 % 256, x % 256] ++ foursL xs := by simp [foursL]
theorem wordAt_fours {x : Int} (hx : u32 x) (l : List Int) : wordAt (foursL (x :: l)) 0 = x := by
  rw [foursL_cons]
  have h1 := hx.1
  have h2 := hx.2
  show x / 16777216 * 16777216 + x / 65536 % 256 * 65536 + x / 256 % 256 * 256 + x % 256 = x
  omega
theorem words_fours : ∀ (l ys : List Int), (∀ x ∈ l, u32 x) → words (foursL l ++ ys) l.length = l := by
  have key : ∀ (l ys : List Int), (∀ x ∈ l, u32 x) → ∀ j, j < l.length → wordAt (foursL l ++ ys) (4 * j) = l.getD j 0 := by
    intro l
    induction l with
    | nil => intro ys _ j hj; simp at hj
    | cons x l ih =>
      intro ys h j hj
      cases j with
      | zero =>
        have h1 := (h x (by simp)).1
        have h2 := (h x (by simp)).2
        rw [foursL_cons]
        show x / 16777216 * 16777216 + x / 65536 % 256 * 65536 + x / 256 % 256 * 256 + x % 256 = x
        omega
      | succ j =>
        have := ih ys (fun x hx => h x (List.mem_cons_of_mem _ hx)) j (by simpa using hj)
        rw [foursL_cons, List.append_assoc]
        exact this
  intro l ys h
  apply List.ext_getElem
  · rw [words_length]
  · intro i h1 h2
    have e : ∀ (q : List Int) (n j : Nat) (h : j < (words q n).length), (words q n)[j] = wordAt q (4 * j) := fun q n j h => by
      simp only [words, List.getElem_map, List.getElem_range]
    rw [e, key l ys h i h2, getD_lt h2]
theorem stepE_one {fl k : Int} {v : List Int} (hf : flagsP k = fl) (h0 : fl = 64 ∨ fl = 128 ∨ fl = 192) : stepE fl k v = (takeP AV.zero k v).2 ∧ stepE (fl + 16) k v = (takeP AV.zero k v).2 := by
  unfold stepE
  rw [hf]
  constructor
  · rw [if_neg (by omega), if_neg (by omega)]
  · rw [if_neg (by omega), if_neg (by omega)]
theorem oneP_parts {fl k : Int} {v : List Int} (h0 : fl = 64 ∨ fl = 128 ∨ fl = 192) (hl : v.length ≤ 65535) : cutP (oneP fl k v) ∧ ((oneP fl k v).getD 0 0 = fl ∨ (oneP fl k v).getD 0 0 = fl + 16) ∧ (oneP fl k v).getD 1 0 = k ∧ valP (oneP fl k v) = v ∧ restP (oneP fl k v) = [] ∧ oneP fl k v ≠ [] := by
  unfold oneP
  by_cases h : v.length > 255
  · rw [if_pos h]
    have hh : headP ((fl + 16) :: k :: ((v.length / 256 : Nat) : Int) :: ((v.length % 256 : Nat) : Int) :: v) = 4 := by
      unfold headP
      rw [show ((fl + 16) :: k :: ((v.length / 256 : Nat) : Int) :: ((v.length % 256 : Nat) : Int) :: v).getD 0 0 = fl + 16 from rfl, if_pos (by omega)]
    have hs : sizeP ((fl + 16) :: k :: ((v.length / 256 : Nat) : Int) :: ((v.length % 256 : Nat) : Int) :: v) = v.length := by
      unfold sizeP
      rw [show ((fl + 16) :: k :: ((v.length / 256 : Nat) : Int) :: ((v.length % 256 : Nat) : Int) :: v).getD 0 0 = fl + 16 from rfl, if_pos (by omega)]
      show (((v.length / 256 : Nat) : Int) * 256 + ((v.length % 256 : Nat) : Int)).toNat = v.length
      omega
    refine ⟨⟨by rw [hh]; simp, by rw [hh, hs]; simp; omega⟩, .inr rfl, rfl, ?_, ?_, by simp⟩
    · unfold valP; rw [hh, hs]; simp
    · unfold restP; rw [hh, hs]; apply List.drop_of_length_le; simp; omega
  · rw [if_neg h]
    have hh : headP (fl :: k :: (v.length : Int) :: v) = 3 := by
      unfold headP
      rw [show (fl :: k :: (v.length : Int) :: v).getD 0 0 = fl from rfl, if_neg (by omega)]
    have hs : sizeP (fl :: k :: (v.length : Int) :: v) = v.length := by
      unfold sizeP
      rw [show (fl :: k :: (v.length : Int) :: v).getD 0 0 = fl from rfl, if_neg (by omega)]
      rfl
    refine ⟨⟨by rw [hh]; simp, by rw [hh, hs]; simp; omega⟩, .inl rfl, rfl, ?_, ?_, by simp⟩
    · unfold valP; rw [hh, hs]; simp
    · unfold restP; rw [hh, hs]; apply List.drop_of_length_le; simp; omega
/-- One attribute is read. -/
theorem readP_one {fl k : Int} {v : List Int} (need : Bool) (hf : flagsP k = fl) (h0 : fl = 64 ∨ fl = 128 ∨ fl = 192) (hl : v.length ≤ 65535) (ys : List Int) (met : Int → Bool) (a : AV) (hm : met k = false) (ht : (takeP a k v).2 = 0) {F : Nat} (hF : (oneP fl k v ++ ys).length < F) :
    readP need F (oneP fl k v ++ ys) met a = readP need (ys.length + 1) ys (metU met k) (takeP a k v).1 := by
  obtain ⟨p1, p2, p3, p4, p5, p6⟩ := oneP_parts (k := k) h0 hl
  obtain ⟨c1, c2, c3, c4, c5, c6, c7⟩ := cut_app ys p1
  obtain ⟨f, rfl⟩ : ∃ f, F = f + 1 := ⟨F - 1, by omega⟩
  obtain ⟨s1, s2⟩ := stepE_one (v := v) hf h0
  have hx : oneP fl k v ++ ys ≠ [] := by intro e; exact p6 (List.append_eq_nil_iff.1 e).1
  rw [readP_step _ _ _ _ _ hx, c4, c5, c6, c7, p3, p4, p5, List.nil_append, if_neg (by rintro (h | h); exact h c3; rw [hm] at h; cases h)]
  have he : stepE ((oneP fl k v).getD 0 0) k v = 0 := by
    rw [takeP_err a AV.zero] at ht
    rcases p2 with p2 | p2
    · rw [p2, s1, ht]
    · rw [p2, s2, ht]
  rw [if_pos he]
  unfold stepA
  rw [if_neg (by rw [hf]; omega)]
  refine readP_fuel ?_ (by omega)
  have := List.length_pos_iff.2 p6
  simp at hF
  omega
theorem segP_put {p : List Int} (h1 : p.length ≤ 255) (hr : ∀ x ∈ p, u32 x) : segP ((pathB p).length + 1) (pathB p) = some p := by
  unfold pathB
  by_cases h : p = []
  · subst h; rfl
  · rw [if_neg h]
    have hp := List.length_pos_iff.2 h
    have hfl := foursL_length p
    rw [segP_good (ys := 2 :: (p.length : Int) :: foursL p) (q := p.length) (by simp) (by simp) rfl rfl hp (by simp; omega)]
    have e : (2 :: (p.length : Int) :: foursL p).drop (2 + 4 * p.length) = [] := by apply List.drop_of_length_le; simp; omega
    rw [e]
    have := words_fours p [] hr
    rw [List.append_nil] at this
    show (Option.map (fun l => words (foursL p) p.length ++ l) (segP 1 [])) = some p
    rw [this]
    simp [segP]
theorem pathB_length (p : List Int) : (pathB p).length ≤ 2 + 4 * p.length := by
  unfold pathB; split
  · simp
  · simp [foursL_length]; omega
theorem uniq_self {l : List Int} (h : l.Pairwise (· < ·)) : uniq l = l := (uniq_eq h fun _ => Iff.rfl).symm
theorem takeP_1 {a : AV} {v : List Int} (h : v.length = 1) (h2 : ¬ v.getD 0 0 > 2) : takeP a 1 v = ({ a with origin := v.getD 0 0 }, 0) := by
  unfold takeP
  rw [if_neg (by unfold lenP; simp [h]), if_pos rfl, if_neg h2]
theorem takeP_2 {a : AV} {v l : List Int} (h : pathP v = some l) : takeP a 2 v = ({ a with path := l }, 0) := by
  unfold takeP
  rw [if_neg (by unfold lenP; simp), if_neg (by decide), if_pos rfl, h]
theorem takeP_3 {a : AV} {v : List Int} (h : v.length = 4) (h1 : wordAt v 0 ≠ 0) (h2 : wordAt v 0 < 3758096384) : takeP a 3 v = ({ a with hop := wordAt v 0 }, 0) := by
  unfold takeP
  rw [if_neg (by unfold lenP; simp [h]), if_neg (by decide), if_neg (by decide), if_pos rfl, if_neg (by omega)]
theorem takeP_4 {a : AV} {v : List Int} (h : v.length = 4) : takeP a 4 v = ({ a with med := wordAt v 0, hasMed := true }, 0) := by
  unfold takeP
  rw [if_neg (by unfold lenP; simp [h]), if_neg (by decide), if_neg (by decide), if_neg (by decide), if_pos rfl]
theorem takeP_5 {a : AV} {v : List Int} (h : v.length = 4) : takeP a 5 v = ({ a with pref := wordAt v 0, hasPref := true }, 0) := by
  unfold takeP
  rw [if_neg (by unfold lenP; simp [h]), if_neg (by decide), if_neg (by decide), if_neg (by decide), if_neg (by decide), if_pos rfl]
theorem takeP_8 {a : AV} {l : List Int} (h1 : l.Pairwise (· < ·)) (h2 : l.length ≤ 255) (hr : ∀ x ∈ l, u32 x) : takeP a 8 (foursL l) = ({ a with comms := l }, 0) := by
  have fl := foursL_length l
  have hw : uniq (words (foursL l) ((foursL l).length / 4)) = l := by
    have := words_fours l [] hr
    rw [List.append_nil] at this
    rw [fl, Nat.mul_div_cancel_left _ (by omega), this, uniq_self h1]
  unfold takeP
  rw [if_neg (by unfold lenP; simp [fl]), if_neg (by decide), if_neg (by decide), if_neg (by decide), if_neg (by decide), if_neg (by decide), if_pos rfl, hw, if_neg (by omega)]
theorem readP_one' {fl k : Int} {v : List Int} {a b : AV} (need : Bool) (hf : flagsP k = fl) (h0 : fl = 64 ∨ fl = 128 ∨ fl = 192) (hl : v.length ≤ 65535) (ys : List Int) (met : Int → Bool) (hm : met k = false) (ht : takeP a k v = (b, 0)) {F : Nat} (hF : (oneP fl k v ++ ys).length < F) :
    readP need F (oneP fl k v ++ ys) met a = readP need (ys.length + 1) ys (metU met k) b := by
  rw [readP_one need hf h0 hl ys met a hm (by rw [ht]) hF, ht]
theorem put_last {l : List Int} (r1 : l.Pairwise (· < ·)) (r3 : l.length ≤ 255) (g5 : ∀ x ∈ l, u32 x) (met : Int → Bool) (A : AV) (m8 : met 8 = false) (m1 : met 1 = true) (m2 : met 2 = true) (m3 : met 3 = true) (hA : A.comms = []) {F : Nat} (hF : (if l = [] then [] else oneP 192 8 (foursL l)).length < F) :
    readP true F (if l = [] then [] else oneP 192 8 (foursL l)) met A = ({ A with comms := l }, 0) := by
  by_cases hc : l = []
  · rw [if_pos hc] at hF ⊢
    rw [readP_fuel hF (show ([] : List Int).length < 0 + 1 by simp), readP_nil, m1, m2, m3]
    simp only [Bool.and_self, Bool.not_true, Bool.and_false, Bool.false_eq_true, if_false]
    rw [hc, ← hA]
  · rw [if_neg hc] at hF ⊢
    have fl := foursL_length l
    have := readP_one' true (show flagsP 8 = 192 by rfl) (.inr (.inr rfl)) (v := foursL l) (by omega) [] met m8 (takeP_8 (a := A) r1 r3 g5) (F := F) (by rw [List.append_nil]; exact hF)
    rw [List.append_nil] at this
    rw [this, show ([] : List Int).length + 1 = 0 + 1 from rfl, readP_nil]
    simp [metU, m1, m2, m3]
theorem put_pref {l : List Int} {q : Int} {hq : Bool} (r1 : l.Pairwise (· < ·)) (r3 : l.length ≤ 255) (g5 : ∀ x ∈ l, u32 x) (g4 : u32 q) (r10 : hq = false → q = 0) (met : Int → Bool) (A : AV) (m5 : met 5 = false) (m8 : met 8 = false) (m1 : met 1 = true) (m2 : met 2 = true) (m3 : met 3 = true) (hA : A.comms = []) (h1 : A.pref = 0) (h2 : A.hasPref = false) {F : Nat} (hF : ((if hq = true then oneP 64 5 (foursL [q]) else []) ++ (if l = [] then [] else oneP 192 8 (foursL l))).length < F) :
    readP true F ((if hq = true then oneP 64 5 (foursL [q]) else []) ++ (if l = [] then [] else oneP 192 8 (foursL l))) met A = ({ A with pref := q, hasPref := hq, comms := l }, 0) := by
  cases hq with
  | true =>
    rw [if_pos rfl] at hF ⊢
    rw [readP_one' true (by rfl) (.inl rfl) (by simp [foursL_length]) _ _ m5 (takeP_5 (a := A) (foursL_length [q])) hF, wordAt_fours g4 []]
    rw [put_last r1 r3 g5 (metU met 5) { A with pref := q, hasPref := true } (by simp [metU, m8]) (by simp [metU, m1]) (by simp [metU, m2]) (by simp [metU, m3]) hA (by omega)]
  | false =>
    rw [if_neg (by decide), List.nil_append] at hF ⊢
    rw [put_last r1 r3 g5 met A m8 m1 m2 m3 hA hF, r10 rfl]
    obtain ⟨o, p, h, m, q', hm, hq', c⟩ := A
    simp only at h1 h2
    subst h1 h2
    rfl
/-- What is put is read. -/
theorem rd_put {a : AV} (hr : rightP a) (hg : goodAV a) : rdP true (putP a) = (a, 0) := by
  obtain ⟨r1, r2, r3, r4, r5, r6, r7, r8, r9, r10⟩ := hr
  obtain ⟨g1, g2, g3, g4, g5⟩ := hg
  unfold rdP putP
  simp only [List.append_assoc]
  have hp2 := pathB_length a.path
  have hp : pathP (pathB a.path) = some a.path := by unfold pathP; rw [segP_put r2 g1]; simp [r2, r4]
  have w3 := wordAt_fours g2 []
  rw [readP_one' true (by rfl) (.inl rfl) (by simp) _ _ rfl (takeP_1 rfl (by show ¬ a.origin > 2; omega)) (by omega)]
  rw [readP_one' true (by rfl) (.inl rfl) (by omega) _ _ (by rfl) (takeP_2 hp) (by omega)]
  rw [readP_one' true (by rfl) (.inl rfl) (by simp [foursL_length]) _ _ (by rfl) (takeP_3 (foursL_length [a.hop]) (by rw [w3]; exact r7) (by rw [w3]; exact r8)) (by omega), w3]
  cases hq : a.hasMed with
  | true =>
    rw [if_pos rfl]
    rw [readP_one' true (by rfl) (.inr (.inl rfl)) (by simp [foursL_length]) _ _ (by rfl) (takeP_4 (foursL_length [a.med])) (by omega), wordAt_fours g3 []]
    rw [put_pref r1 r3 g5 g4 r10 _ _ (by rfl) (by rfl) (by rfl) (by rfl) (by rfl) rfl rfl rfl (by omega), ← hq]
    rfl
  | false =>
    rw [if_neg (by decide), List.nil_append, put_pref r1 r3 g5 g4 r10 _ _ (by rfl) (by rfl) (by rfl) (by rfl) (by rfl) rfl rfl rfl (by omega)]
    have := r9 hq
    obtain ⟨o, p, h, m, q, hm, hq', c⟩ := a
    simp only at this hq
    subst this hq
    rfl
/-- What was read is right, as far as it was read. -/
def partP (met : Int → Bool) (a : AV) : Prop := a.comms.Pairwise (· < ·) ∧ a.path.length ≤ 255 ∧ a.comms.length ≤ 255 ∧ 0 ∉ a.path ∧ 0 ≤ a.origin ∧ a.origin ≤ 2 ∧ (met 3 = true → a.hop ≠ 0 ∧ a.hop < 3758096384) ∧ (a.hasMed = false → a.med = 0) ∧ (a.hasPref = false → a.pref = 0) ∧ goodAV a
theorem wordAt_u32 {xs : List Int} (hb : ∀ x ∈ xs, 0 ≤ x ∧ x ≤ 255) (i : Nat) : u32 (wordAt xs i) := by
  have h0 := getD_byte hb i
  have h1 := getD_byte hb (i + 1)
  have h2 := getD_byte hb (i + 2)
  have h3 := getD_byte hb (i + 3)
  unfold isByte at h0 h1 h2 h3
  unfold u32 wordAt
  omega
theorem words_u32 {xs : List Int} (hb : ∀ x ∈ xs, 0 ≤ x ∧ x ≤ 255) (n : Nat) : ∀ x ∈ words xs n, u32 x := by
  intro x hx
  unfold words at hx
  obtain ⟨j, _, rfl⟩ := List.mem_map.1 hx
  exact wordAt_u32 hb _
theorem segP_u32 : ∀ {f : Nat} {xs l : List Int}, (∀ x ∈ xs, 0 ≤ x ∧ x ≤ 255) → segP f xs = some l → ∀ x ∈ l, u32 x
  | 0, _, _, _, h => by cases h
  | f + 1, xs, l, hb, h => by
    unfold segP at h
    split at h
    · cases h; simp
    · split at h
      · cases h
      · obtain ⟨m, hm, rfl⟩ := Option.map_eq_some_iff.1 h
        intro x hx
        rcases List.mem_append.1 hx with hx | hx
        · exact words_u32 (fun x hx => hb x (List.mem_of_mem_drop hx)) _ x hx
        · exact segP_u32 (fun x hx => hb x (List.mem_of_mem_drop hx)) hm x hx
theorem part_step {fl k : Int} {v : List Int} {met : Int → Bool} {a : AV} (hb : ∀ x ∈ v, 0 ≤ x ∧ x ≤ 255) (he : stepE fl k v = 0) (h : partP met a) : partP (metU met k) (stepA a k v) := by
  obtain ⟨r1, r2, r3, r4, r5, r6, r7, r9, r10, g1, g2, g3, g4, g5⟩ := h
  have hm : ∀ b : AV, b.hop = a.hop → k ≠ 3 → (metU met k 3 = true → b.hop ≠ 0 ∧ b.hop < 3758096384) := by
    intro b hb hk h3
    rw [hb]
    unfold metU at h3
    rw [if_neg (Ne.symm hk)] at h3
    exact r7 h3
  rcases step_cases he with ⟨h0, n1, n2, n3, n4, n5, n8⟩ | ⟨h0, h1⟩
  · unfold stepA
    rw [if_pos h0]
    exact ⟨r1, r2, r3, r4, r5, r6, hm a rfl n3, r9, r10, g1, g2, g3, g4, g5⟩
  · unfold stepA
    rw [if_neg h0]
    rw [takeP_err AV.zero a] at h1
    unfold takeP at h1 ⊢
    by_cases hl : lenP k v.length = false
    · rw [if_pos hl] at h1; simp at h1
    simp only [if_neg hl] at h1 ⊢
    by_cases k1 : k = 1
    · subst k1
      simp only [if_true] at h1 ⊢
      by_cases c : v.getD 0 0 > 2
      · rw [if_pos c] at h1; simp at h1
      · rw [if_neg c]
        have := getD_byte hb 0
        exact ⟨r1, r2, r3, r4, this.1, by simp only; omega, hm _ rfl (by decide), r9, r10, g1, g2, g3, g4, g5⟩
    simp only [if_neg k1] at h1 ⊢
    by_cases k2 : k = 2
    · subst k2
      simp only [if_true] at h1 ⊢
      cases hp : pathP v with
      | none => rw [hp] at h1; simp at h1
      | some l =>
        unfold pathP at hp
        obtain ⟨m, hm1, hm2⟩ := Option.bind_eq_some_iff.1 hp
        split at hm2
        · cases hm2
          rename_i hc
          exact ⟨r1, hc.1, r3, hc.2, r5, r6, hm _ rfl (by decide), r9, r10, segP_u32 hb hm1, g2, g3, g4, g5⟩
        · cases hm2
    simp only [if_neg k2] at h1 ⊢
    by_cases k3 : k = 3
    · subst k3
      simp only [if_true] at h1 ⊢
      by_cases c : wordAt v 0 = 0 ∨ wordAt v 0 ≥ 3758096384
      · rw [if_pos c] at h1; simp at h1
      · rw [if_neg c]
        exact ⟨r1, r2, r3, r4, r5, r6, fun _ => ⟨fun e => c (.inl e), by simp only; omega⟩, r9, r10, g1, wordAt_u32 hb 0, g3, g4, g5⟩
    simp only [if_neg k3] at h1 ⊢
    by_cases k4 : k = 4
    · subst k4
      simp only [if_true]
      exact ⟨r1, r2, r3, r4, r5, r6, hm _ rfl (by decide), (fun h => by cases h), r10, g1, g2, wordAt_u32 hb 0, g4, g5⟩
    simp only [if_neg k4] at h1 ⊢
    by_cases k5 : k = 5
    · subst k5
      simp only [if_true]
      exact ⟨r1, r2, r3, r4, r5, r6, hm _ rfl (by decide), r9, (fun h => by cases h), g1, g2, g3, wordAt_u32 hb 0, g5⟩
    simp only [if_neg k5] at h1 ⊢
    by_cases k8 : k = 8
    · subst k8
      simp only [if_true] at h1 ⊢
      by_cases c : (uniq (words v (v.length / 4))).length > 255
      · rw [if_pos c] at h1; simp at h1
      · rw [if_neg c]
        exact ⟨uniq_rise _, r2, by simp only; omega, r4, r5, r6, hm _ rfl (by decide), r9, r10, g1, g2, g3, g4, fun x hx => words_u32 hb _ x (uniq_mem.1 hx)⟩
    simp only [if_neg k8]
    exact ⟨r1, r2, r3, r4, r5, r6, hm _ rfl k3, r9, r10, g1, g2, g3, g4, g5⟩
theorem Rd.part {xs : List Int} {met : Int → Bool} {a a' : AV} {ks : List Int} (h : Rd xs met a ks a') (hb : ∀ x ∈ xs, 0 ≤ x ∧ x ≤ 255) (hp : partP met a) : partP (metA met ks) a' := by
  induction h with
  | nil met a => have : metA met [] = met := by funext i; simp [metA]
                 rw [this]; exact hp
  | cons xs met a ks a' hx hc hm he t ih =>
    rw [← metA_cons]
    exact ih (fun x hx => hb x (List.mem_of_mem_drop hx)) (part_step (fun x hx => hb x (List.mem_of_mem_drop (List.mem_of_mem_take hx))) he hp)
theorem partP_zero : partP (fun _ => false) AV.zero := by
  refine ⟨.nil, by decide, by decide, by simp [AV.zero], by decide, by decide, by simp, fun _ => rfl, fun _ => rfl, by simp [AV.zero], by unfold u32; decide, by unfold u32; decide, by unfold u32; decide, by simp [AV.zero]⟩
/-- What is read with need is right. -/
theorem rd_right {xs : List Int} (hb : ∀ x ∈ xs, 0 ≤ x ∧ x ≤ 255) (h : (rdP true xs).2 = 0) : rightP (rdP true xs).1 ∧ goodAV (rdP true xs).1 := by
  unfold rdP at *
  obtain ⟨ks, r1, r2⟩ := rd_of (by omega) h
  obtain ⟨p1, p2, p3, p4, p5, p6, p7, p8, p9, p10⟩ := r1.part hb partP_zero
  have h3 : metA (fun _ => false) ks 3 = true := by
    rcases r2 rfl 3 (by simp) with h | h
    · cases h
    · simp [metA, h]
  exact ⟨⟨p1, p2, p3, p4, p5, p6, (p7 h3).1, (p7 h3).2, p8, p9⟩, p10⟩
/-- Where something is wrong, nothing is read. -/
theorem readP_wrong {need : Bool} : ∀ {f : Nat} {xs : List Int} {met : Int → Bool} {a : AV}, (readP need f xs met a).2 ≠ 0 → (readP need f xs met a).1 = AV.zero
  | 0, _, _, _, _ => rfl
  | f + 1, xs, met, a, h => by
    by_cases hx : xs = []
    · subst hx
      rw [readP_nil] at h ⊢
      split at h
      · rename_i hc; rw [if_pos hc]
      · exact absurd rfl h
    · rw [readP_step _ _ _ _ _ hx] at h ⊢
      split
      · rfl
      · rename_i hc
        rw [if_neg hc] at h
        split
        · rename_i hc2
          rw [if_pos hc2] at h
          exact readP_wrong h
        · rfl
theorem rd_wrong {need : Bool} {xs : List Int} (h : (rdP need xs).2 ≠ 0) : rdP need xs = (AV.zero, (rdP need xs).2) := by
  have := readP_wrong (f := xs.length + 1) (xs := xs) h
  unfold rdP at *
  exact Prod.ext this rfl

end Go.Proofs.Ytbjipdmbdabniaa.Ax
