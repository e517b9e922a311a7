/- Contracts of functions over the abstract machine. No conditions: lemmas alone. -/
import Derived.Test.YtbdejnnbpdgjlaaPeerXLibD
import Derived.Test.YtbdejnnbpdgjlaaPeerXP0
import Derived.Test.YtbdejnnbpdgjlaaPeerXP11
import Derived.Test.YtbdejnnbpdgjlaaPeerXP2
namespace Go.Proofs.Ytbdejnnbpdgjlaa.Ax
open Go Go.RowKit
set_option linter.unusedVariables false
set_option linter.unusedSimpArgs false
set_option maxRecDepth 100000
set_option maxHeartbeats 20000000
structure MV where
 kind : Int
 asn : Int
 id : Int
 hold : Int
 gone : List PX
 attrs : AV
 new : List PX
 code : Int
 sub : Int
 data : List Int
def MV.zero : MV := ⟨0, 0, 0, 0, [], AV.zero, [], 0, 0, []⟩
def pairAt (xs : List Int) (i : Nat) : Int := xs.getD i 0 * 256 + xs.getD (i + 1) 0
def shortP (asn : Int) : Int := if asn > 65535 then 23456 else asn
def capP : Nat → List Int → Int → Bool → Option (Int × Bool)
 | 0, _, _, _ => none
 | f + 1, v, asn, has => if v = [] then some (asn, has) else if v.length < 2 ∨ v.length - 2 < (v.getD 1 0).toNat ∨ (v.getD 0 0 = 65 ∧ v.getD 1 0 ≠ 4) then none
   else capP f (v.drop (2 + (v.getD 1 0).toNat)) (if v.getD 0 0 = 65 then wordAt v 2 else asn) (if v.getD 0 0 = 65 then true else has)
def parP : Nat → List Int → Int → Bool → Int ⊕ (Int × Bool)
 | 0, _, _, _ => .inl 0
 | f + 1, v, asn, has => if v = [] then .inr (asn, has) else if v.length < 2 ∨ v.length - 2 < (v.getD 1 0).toNat then .inl 0 else if v.getD 0 0 ≠ 2 then .inl 4
   else match capP ((v.getD 1 0).toNat + 1) ((v.drop 2).take (v.getD 1 0).toNat) asn has with
    | none => .inl 0
    | some (asn', has') => parP f (v.drop (2 + (v.getD 1 0).toNat)) asn' has'
def openP (b : List Int) : MV × (Int × Int) :=
 if b.getD 0 0 ≠ 4 then (MV.zero, (2, 1)) else if b.getD 9 0 ≠ (b.length : Int) - 10 then (MV.zero, (2, 0))
 else match parP (b.length + 1) (b.drop 10) 0 false with
  | .inl s => (MV.zero, (2, s))
  | .inr (asn, has) => if has = false then (MV.zero, (2, 7)) else if asn = 0 ∨ pairAt b 1 ≠ shortP asn then (MV.zero, (2, 2)) else if pairAt b 3 = 1 ∨ pairAt b 3 = 2 then (MV.zero, (2, 6)) else if wordAt b 5 = 0 then (MV.zero, (2, 3))
    else ({ MV.zero with kind := 1, asn := asn, id := wordAt b 5, hold := pairAt b 3 }, (0, 0))
def updG (b : List Int) : Nat := (pairAt b 0).toNat
def updA (b : List Int) : Nat := (pairAt b (2 + updG b)).toNat
def updateP (b : List Int) : MV × (Int × Int) :=
 if b.length < 4 + updG b ∨ b.length < 4 + updG b + updA b then (MV.zero, (3, 1))
 else if (nlR ((b.drop 2).take (updG b))).2 ≠ 0 ∨ (nlR (b.drop (4 + updG b + updA b))).2 ≠ 0 then (MV.zero, (3, 10))
 else if (rdP (decide ((nlR (b.drop (4 + updG b + updA b))).1 ≠ [])) ((b.drop (4 + updG b)).take (updA b))).2 ≠ 0 then (MV.zero, (3, (rdP (decide ((nlR (b.drop (4 + updG b + updA b))).1 ≠ [])) ((b.drop (4 + updG b)).take (updA b))).2))
 else ({ MV.zero with kind := 2, gone := (nlR ((b.drop 2).take (updG b))).1, attrs := (rdP (decide ((nlR (b.drop (4 + updG b + updA b))).1 ≠ [])) ((b.drop (4 + updG b)).take (updA b))).1, new := (nlR (b.drop (4 + updG b + updA b))).1 }, (0, 0))
def leastP (k : Int) : Int := if k = 1 then 29 else if k = 2 then 23 else if k = 3 then 21 else 19
def headF (b : List Int) : Int × Int := if pairAt b 16 < 19 ∨ pairAt b 16 > 4096 then (1, 2) else if b.getD 18 0 < 1 ∨ b.getD 18 0 > 4 then (1, 3) else if pairAt b 16 < leastP (b.getD 18 0) ∨ (b.getD 18 0 = 4 ∧ pairAt b 16 > 19) then (1, 2) else (0, 0)
def bodyP (k : Int) (b : List Int) : MV × (Int × Int) :=
 if k = 1 then openP b else if k = 2 then updateP b else if k = 3 then ({ MV.zero with kind := 3, code := b.getD 0 0, sub := b.getD 1 0, data := b.drop 2 }, (0, 0)) else ({ MV.zero with kind := 4 }, (0, 0))
def readM (b : List Int) : MV × Int × (Int × Int) :=
 if ∃ x ∈ b.take 16, x ≠ 255 then (MV.zero, 0, (1, 1))
 else if b.length < 19 then (MV.zero, 0, (0, 0))
 else if headF b ≠ (0, 0) then (MV.zero, 0, headF b)
 else if (b.length : Int) < pairAt b 16 then (MV.zero, 0, (0, 0))
 else if (bodyP (b.getD 18 0) ((b.drop 19).take ((pairAt b 16).toNat - 19))).2 = (0, 0) then ((bodyP (b.getD 18 0) ((b.drop 19).take ((pairAt b 16).toNat - 19))).1, pairAt b 16, (0, 0))
 else (MV.zero, 0, (bodyP (b.getD 18 0) ((b.drop 19).take ((pairAt b 16).toNat - 19))).2)
def twoB (n : Int) : List Int := [n / 256 % 256, n % 256]
def rightM (m : MV) : Prop :=
 if m.kind = 1 then m.asn ≠ 0 ∧ m.id ≠ 0 ∧ (m.hold = 0 ∨ (3 ≤ m.hold ∧ m.hold ≤ 65535))
 else if m.kind = 2 then (∀ p ∈ m.gone, rightX p) ∧ (∀ p ∈ m.new, rightX p) ∧ (m.new = [] ∨ rightP m.attrs)
 else if m.kind = 3 then 0 ≤ m.code ∧ m.code ≤ 255 ∧ 0 ≤ m.sub ∧ m.sub ≤ 255
 else True
instance (m : MV) : Decidable (rightM m) := by unfold rightM; infer_instance
def attrsB (m : MV) : List Int := if m.new = [] then [] else putP m.attrs
def bodyB (m : MV) : List Int :=
 if m.kind = 1 then 4 :: twoB (shortP m.asn) ++ twoB m.hold ++ addrBytes m.id ++ [8, 2, 6, 65, 4] ++ addrBytes m.asn
 else if m.kind = 2 then twoB ((nlPut m.gone).getD []).length ++ (nlPut m.gone).getD [] ++ twoB (attrsB m).length ++ attrsB m ++ (nlPut m.new).getD []
 else if m.kind = 3 then m.code :: m.sub :: m.data
 else []
def putM (m : MV) : List Int × Int :=
 if m.kind < 1 ∨ m.kind > 4 then ([], 2) else if ¬ rightM m then ([], 4) else if (bodyB m).length + 19 > 4096 then ([], 6)
 else (List.replicate 16 255 ++ twoB ((bodyB m).length + 19 : Nat) ++ m.kind :: bodyB m, 0)
def ownM (m : MV) : MV :=
 if m.kind = 1 then { MV.zero with kind := 1, asn := m.asn, id := m.id, hold := m.hold }
 else if m.kind = 2 then { MV.zero with kind := 2, gone := m.gone, new := m.new, attrs := if m.new = [] then AV.zero else m.attrs }
 else if m.kind = 3 then { MV.zero with kind := 3, code := m.code, sub := m.sub, data := m.data }
 else { MV.zero with kind := m.kind }
def goodX (p : PX) : Prop := 0 ≤ p.1 ∧ p.1 ≤ 4294967295
theorem right_dvd {p : PX} (h : rightX p) (n : Nat) (hn : p.2 ≤ 8 * n) (hn4 : n ≤ 4) : p.1 % 2 ^ (32 - 8 * n) = 0 := by
 have hl := rightX_len h
 have hk : maskN p.2 ≤ 8 * n := by
  unfold maskN
  split
  ·omega
  ·split <;> omega
 have h1 : p.1 = p.1 / 2 ^ (32 - maskN p.2) * 2 ^ (32 - maskN p.2) := congrArg Prod.fst h
 have h2 : (2 : Int) ^ (32 - maskN p.2) = 2 ^ (8 * n - maskN p.2) * 2 ^ (32 - 8 * n) := by
  rw [← Int.pow_add]; congr 1; omega
 rw [h1, h2, ← Int.mul_assoc]
 exact Int.mul_emod_left _ _
theorem nbytes_le {n : Int} (h : 0 ≤ n ∧ n ≤ 32) : nbytes n ≤ 4 ∧ n ≤ 8 * nbytes n := by unfold nbytes; omega
theorem putX_length (p : PX) (h : rightX p) : (putX p).length = 1 + nbytes p.2 := by
 have := nbytes_le (rightX_len h)
 unfold putX
 rw [List.length_cons, List.length_take]
 simp [addrBytes]
 omega
theorem addrOf_put {p : PX} (h : rightX p) (hg : goodX p) (ys : List Int) : addrOf ((addrBytes p.1).take (nbytes p.2) ++ ys) (nbytes p.2) = p.1 := by
 obtain ⟨b4, b8⟩ := nbytes_le (rightX_len h)
 have hd := right_dvd h (nbytes p.2) b8 b4
 have h1 := hg.1
 have h2 := hg.2
 generalize nbytes p.2 = n at *
 match n, b4 with
 | 0, _ => simp [addrOf, addrBytes] at hd ⊢; omega
 | 1, _ => simp [addrOf, addrBytes] at hd ⊢; omega
 | 2, _ => simp [addrOf, addrBytes] at hd ⊢; omega
 | 3, _ => simp [addrOf, addrBytes] at hd ⊢; omega
 | 4, _ => simp [addrOf, addrBytes] at hd ⊢; omega
theorem nlR_nil : nlR [] = ([], 0) := rfl
theorem nlR_put {p : PX} (h : rightX p) (hg : goodX p) (ys : List Int) (he : (nlR ys).2 = 0) : nlR (putX p ++ ys) = (p :: (nlR ys).1, 0) := by
 have hl := rightX_len h
 have hlen := putX_length p h
 have e : putX p ++ ys = p.2 :: ((addrBytes p.1).take (nbytes p.2) ++ ys) := rfl
 have hdrop : (putX p ++ ys).drop (1 + nbytes p.2) = ys := by rw [← hlen, List.drop_left]
 unfold nlR
 rw [nlRead, if_neg (by rw [e]; simp), show (putX p ++ ys).getD 0 0 = p.2 from rfl, if_neg (by omega), if_neg (by rw [List.length_append]; omega), hdrop]
 rw [nlRead_fuel (f := (putX p ++ ys).length) (g := ys.length + 1) (xs := ys) (by rw [List.length_append]; omega) (by omega)]
 have he' : (nlRead (ys.length + 1) ys).2 = 0 := he
 rw [if_pos he']
 have : (putX p ++ ys).drop 1 = (addrBytes p.1).take (nbytes p.2) ++ ys := rfl
 rw [this, addrOf_put h hg, show ((p.1, p.2) : PX) = p from rfl, ← h]
theorem nlR_all : ∀ {l : List PX} {bs : List Int}, nlPut l = some bs → (∀ p ∈ l, goodX p) → nlR bs = (l, 0)
 | [], bs, h, _ => by cases h; rfl
 | p :: l, bs, h, hg => by
  unfold nlPut at h
  split at h
  ·rename_i hr
   obtain ⟨r, h1, rfl⟩ := Option.map_eq_some_iff.1 h
   have ih := nlR_all h1 (fun q hq => hg q (List.mem_cons_of_mem _ hq))
   rw [nlR_put hr (hg p (by simp)) r (by rw [ih]), ih]
  ·cases h
theorem nlPut_some {l : List PX} (h : ∀ p ∈ l, rightX p) : ∃ bs, nlPut l = some bs := by
 induction l with
 | nil => exact ⟨[], rfl⟩
 | cons p l ih =>
  obtain ⟨r, hr⟩ := ih fun q hq => h q (List.mem_cons_of_mem _ hq)
  exact ⟨putX p ++ r, by unfold nlPut; rw [if_pos (h p (by simp)), hr]; rfl⟩
theorem addrOf_good {xs : List Int} (hb : ∀ x ∈ xs, 0 ≤ x ∧ x ≤ 255) (n : Nat) : 0 ≤ addrOf xs n ∧ addrOf xs n ≤ 4294967295 := by
 have h0 := getD_byte hb 0
 have h1 := getD_byte hb 1
 have h2 := getD_byte hb 2
 have h3 := getD_byte hb 3
 unfold isByte at h0 h1 h2 h3
 unfold addrOf
 split <;> split <;> split <;> split <;> omega
theorem maskP_good {p : PX} (h : goodX p) : goodX (maskP p) := by
 have hp := pow_pos32 (32 - maskN p.2)
 unfold goodX at h ⊢
 have hle := Int.ediv_mul_le p.1 (show (2 : Int) ^ (32 - maskN p.2) ≠ 0 by omega)
 have hge : 0 ≤ p.1 / 2 ^ (32 - maskN p.2) * 2 ^ (32 - maskN p.2) := Int.mul_nonneg (Int.ediv_nonneg (by omega) (by omega)) (by omega)
 show 0 ≤ p.1 / 2 ^ (32 - maskN p.2) * 2 ^ (32 - maskN p.2) ∧ p.1 / 2 ^ (32 - maskN p.2) * 2 ^ (32 - maskN p.2) ≤ 4294967295
 omega
theorem nlRead_right : ∀ {f : Nat} {xs : List Int}, (∀ x ∈ xs, 0 ≤ x ∧ x ≤ 255) → ∀ p ∈ (nlRead f xs).1, rightX p ∧ goodX p
 | 0, _, _ => by intro p hp; cases hp
 | f + 1, xs, hb => by
  intro p hp
  unfold nlRead at hp
  split at hp
  ·cases hp
  ·split at hp
   ·cases hp
   ·split at hp
    ·cases hp
    ·split at hp
     ·rcases List.mem_cons.1 hp with rfl | hp
      ·exact ⟨maskP_right _, maskP_good (addrOf_good (fun x hx => hb x (List.mem_of_mem_drop hx)) _)⟩
      ·exact nlRead_right (fun x hx => hb x (List.mem_of_mem_drop hx)) p hp
     ·cases hp
theorem nlPut_len : ∀ {l : List PX} {bs : List Int}, nlPut l = some bs → l.length ≤ bs.length ∧ bs.length ≤ 5 * l.length
 | [], bs, h => by cases h; simp
 | p :: l, bs, h => by
  unfold nlPut at h
  split at h
  ·rename_i hr
   obtain ⟨r, h1, rfl⟩ := Option.map_eq_some_iff.1 h
   have ih := nlPut_len h1
   have := putX_length p hr
   have := nbytes_le (rightX_len hr)
   simp only [List.length_append, List.length_cons]
   omega
  ·cases h
theorem two_pair {n : Int} (h : 0 ≤ n ∧ n ≤ 65535) : n / 256 % 256 * 256 + n % 256 = n := by omega
def goodM (m : MV) : Prop := u32 m.asn ∧ u32 m.id ∧ (∀ p ∈ m.gone, goodX p) ∧ (∀ p ∈ m.new, goodX p) ∧ goodAV m.attrs ∧ ∀ x ∈ m.data, 0 ≤ x ∧ x ≤ 255
theorem bodyB_open {m : MV} (h : m.kind = 1) : bodyB m = [4, shortP m.asn / 256 % 256, shortP m.asn % 256, m.hold / 256 % 256, m.hold % 256, m.id / 16777216, m.id / 65536 % 256, m.id / 256 % 256, m.id % 256, 8, 2, 6, 65, 4, m.asn / 16777216, m.asn / 65536 % 256, m.asn / 256 % 256, m.asn % 256] := by
 unfold bodyB; rw [if_pos h]; rfl
theorem open_put {m : MV} (hk : m.kind = 1) (hr : rightM m) (hg : goodM m) : openP (bodyB m) = (ownM m, (0, 0)) := by
 unfold rightM at hr
 rw [if_pos hk] at hr
 obtain ⟨r1, r2, r3⟩ := hr
 have ga := hg.1
 have gi := hg.2.1
 have a1 := ga.1
 have a2 := ga.2
 have i1 := gi.1
 have i2 := gi.2
 have hs : 0 ≤ shortP m.asn ∧ shortP m.asn ≤ 65535 := by unfold shortP; split <;> omega
 rw [bodyB_open hk]
 have hw : wordAt [m.asn / 16777216, m.asn / 65536 % 256, m.asn / 256 % 256, m.asn % 256] 0 = m.asn := by
  show m.asn / 16777216 * 16777216 + m.asn / 65536 % 256 * 65536 + m.asn / 256 % 256 * 256 + m.asn % 256 = m.asn
  omega
 have hcap : ∀ x0 x1 x2 x3 : Int, capP 7 [65, 4, x0, x1, x2, x3] 0 false = some (wordAt [65, 4, x0, x1, x2, x3] 2, true) := by
  intro x0 x1 x2 x3
  simp [capP]
 have hpar : ∀ x0 x1 x2 x3 : Int, parP 19 [2, 6, 65, 4, x0, x1, x2, x3] 0 false = .inr (wordAt [65, 4, x0, x1, x2, x3] 2, true) := by
  intro x0 x1 x2 x3
  have hc := hcap x0 x1 x2 x3
  simp [parP, hc]
 unfold openP
 rw [if_neg (by simp), if_neg (by simp)]
 simp only [List.length_cons, List.length_nil, List.drop_succ_cons, List.drop_zero]
 rw [hpar]
 have e2 : wordAt [65, 4, m.asn / 16777216, m.asn / 65536 % 256, m.asn / 256 % 256, m.asn % 256] 2 = m.asn := hw
 simp only [e2]
 have p1 : pairAt [4, shortP m.asn / 256 % 256, shortP m.asn % 256, m.hold / 256 % 256, m.hold % 256, m.id / 16777216, m.id / 65536 % 256, m.id / 256 % 256, m.id % 256, 8, 2, 6, 65, 4, m.asn / 16777216, m.asn / 65536 % 256, m.asn / 256 % 256, m.asn % 256] 1 = shortP m.asn := two_pair hs
 have p3 : pairAt [4, shortP m.asn / 256 % 256, shortP m.asn % 256, m.hold / 256 % 256, m.hold % 256, m.id / 16777216, m.id / 65536 % 256, m.id / 256 % 256, m.id % 256, 8, 2, 6, 65, 4, m.asn / 16777216, m.asn / 65536 % 256, m.asn / 256 % 256, m.asn % 256] 3 = m.hold := two_pair (by omega)
 have p5 : wordAt [4, shortP m.asn / 256 % 256, shortP m.asn % 256, m.hold / 256 % 256, m.hold % 256, m.id / 16777216, m.id / 65536 % 256, m.id / 256 % 256, m.id % 256, 8, 2, 6, 65, 4, m.asn / 16777216, m.asn / 65536 % 256, m.asn / 256 % 256, m.asn % 256] 5 = m.id := by
  show m.id / 16777216 * 16777216 + m.id / 65536 % 256 * 65536 + m.id / 256 % 256 * 256 + m.id % 256 = m.id
  omega
 rw [p1, p3, p5]
 simp only [Bool.true_eq_false, if_false]
 rw [if_neg (by simp [r1]), if_neg (by omega), if_neg r2]
 unfold ownM
 rw [if_pos hk]
theorem pairAt_app {xs ys : List Int} {i : Nat} (h : i + 1 < xs.length) : pairAt (xs ++ ys) i = pairAt xs i := by
 unfold pairAt
 rw [getD_app (by omega), getD_app h]
theorem pairAt_two {n : Int} (h : 0 ≤ n ∧ n ≤ 65535) (pre ys : List Int) : pairAt (pre ++ twoB n ++ ys) pre.length = n := by
 unfold pairAt twoB
 have e0 : (pre ++ [n / 256 % 256, n % 256] ++ ys).getD pre.length 0 = n / 256 % 256 := by
  rw [List.getD_eq_getElem?_getD, List.append_assoc, List.getElem?_append_right (Nat.le_refl _), Nat.sub_self]; rfl
 have e1 : (pre ++ [n / 256 % 256, n % 256] ++ ys).getD (pre.length + 1) 0 = n % 256 := by
  rw [List.getD_eq_getElem?_getD, List.append_assoc, List.getElem?_append_right (by omega), Nat.add_sub_cancel_left]; rfl
 rw [e0, e1, two_pair h]
theorem update_put {m : MV} (hk : m.kind = 2) (hr : rightM m) (hg : goodM m) (hl : (bodyB m).length ≤ 4077) : updateP (bodyB m) = (ownM m, (0, 0)) := by
 unfold rightM at hr
 rw [if_neg (by omega), if_pos hk] at hr
 obtain ⟨r1, r2, r3⟩ := hr
 obtain ⟨g1, g2, g3, g4, g5, g6⟩ := hg
 obtain ⟨G, hG⟩ := nlPut_some r1
 obtain ⟨N, hN⟩ := nlPut_some r2
 have eb : bodyB m = twoB (G.length : Int) ++ G ++ twoB ((attrsB m).length : Int) ++ attrsB m ++ N := by
  unfold bodyB; rw [if_neg (by omega), if_pos hk, hG, hN]; rfl
 rw [eb] at hl ⊢
 simp only [List.length_append, twoB, List.length_cons, List.length_nil] at hl
 have hG0 := nlR_all hG g3
 have hN0 := nlR_all hN g4
 have u1 : updG (twoB (G.length : Int) ++ G ++ twoB ((attrsB m).length : Int) ++ attrsB m ++ N) = G.length := by
  unfold updG
  have := pairAt_two (n := (G.length : Int)) (by omega) [] (G ++ twoB ((attrsB m).length : Int) ++ attrsB m ++ N)
  simp only [List.nil_append, List.length_nil, List.append_assoc] at this ⊢
  rw [this]; omega
 have u2 : updA (twoB (G.length : Int) ++ G ++ twoB ((attrsB m).length : Int) ++ attrsB m ++ N) = (attrsB m).length := by
  unfold updA
  rw [u1]
  have := pairAt_two (n := ((attrsB m).length : Int)) (by omega) (twoB (G.length : Int) ++ G) (attrsB m ++ N)
  rw [show (twoB (G.length : Int) ++ G).length = 2 + G.length by simp [twoB]; omega] at this
  simp only [List.append_assoc] at this ⊢
  rw [this]; omega
 have d1 : ((twoB (G.length : Int) ++ G ++ twoB ((attrsB m).length : Int) ++ attrsB m ++ N).drop 2).take G.length = G := by
  simp [twoB]
 have d2 : (twoB (G.length : Int) ++ G ++ twoB ((attrsB m).length : Int) ++ attrsB m ++ N).drop (4 + G.length + (attrsB m).length) = N := by
  rw [List.drop_append_of_le_length (by simp [twoB]; omega), List.drop_of_length_le (by simp [twoB]; omega), List.nil_append]
 have d3 : ((twoB (G.length : Int) ++ G ++ twoB ((attrsB m).length : Int) ++ attrsB m ++ N).drop (4 + G.length)).take (attrsB m).length = attrsB m := by
  rw [show twoB (G.length : Int) ++ G ++ twoB ((attrsB m).length : Int) ++ attrsB m ++ N = (twoB (G.length : Int) ++ G ++ twoB ((attrsB m).length : Int)) ++ (attrsB m ++ N) by simp]
  rw [show 4 + G.length = (twoB (G.length : Int) ++ G ++ twoB ((attrsB m).length : Int)).length by simp [twoB]; omega, List.drop_left, List.take_left]
 have ha : rdP (decide (m.new ≠ [])) (attrsB m) = (if m.new = [] then AV.zero else m.attrs, 0) := by
  unfold attrsB
  by_cases hn : m.new = []
  ·rw [if_pos hn, if_pos hn, decide_eq_false (by simp [hn])]; rfl
  ·rw [if_neg hn, if_neg hn, decide_eq_true hn]
   exact rd_put (r3.resolve_left hn) g5
 obtain ⟨AT, hAT⟩ : ∃ AT, AT = if m.new = [] then AV.zero else m.attrs := ⟨_, rfl⟩
 rw [← hAT] at ha
 unfold updateP
 rw [u1, u2, d1, d2, d3, hG0, hN0]
 simp only [ha]
 rw [if_neg (by simp only [List.length_append, twoB, List.length_cons, List.length_nil]; omega), if_neg (by simp), if_neg (by simp)]
 unfold ownM
 rw [← hAT, if_neg (by omega), if_pos hk]
theorem body_put {m : MV} (hk : 1 ≤ m.kind ∧ m.kind ≤ 4) (hr : rightM m) (hg : goodM m) (hl : (bodyB m).length ≤ 4077) : bodyP m.kind (bodyB m) = (ownM m, (0, 0)) := by
 unfold bodyP
 by_cases k1 : m.kind = 1
 ·rw [if_pos k1, open_put k1 hr hg]
 by_cases k2 : m.kind = 2
 ·rw [if_neg k1, if_pos k2, update_put k2 hr hg hl]
 by_cases k3 : m.kind = 3
 ·rw [if_neg k1, if_neg k2, if_pos k3]
  have e : bodyB m = m.code :: m.sub :: m.data := by unfold bodyB; rw [if_neg k1, if_neg k2, if_pos k3]
  rw [e]
  unfold ownM
  rw [if_neg k1, if_neg k2, if_pos k3]; rfl
 ·rw [if_neg k1, if_neg k2, if_neg k3]
  unfold ownM
  rw [if_neg k1, if_neg k2, if_neg k3]
  have : m.kind = 4 := by omega
  rw [this]
theorem bodyB_least {m : MV} (hk : 1 ≤ m.kind ∧ m.kind ≤ 4) : leastP m.kind ≤ (bodyB m).length + 19 ∧ (m.kind = 4 → (bodyB m).length = 0) := by
 unfold leastP bodyB
 by_cases k1 : m.kind = 1
 ·rw [if_pos k1, if_pos k1]; simp [twoB, addrBytes]; omega
 by_cases k2 : m.kind = 2
 ·rw [if_neg k1, if_pos k2, if_neg k1, if_pos k2]; simp [twoB]; omega
 by_cases k3 : m.kind = 3
 ·rw [if_neg k1, if_neg k2, if_pos k3, if_neg k1, if_neg k2, if_pos k3]; simp; omega
 ·rw [if_neg k1, if_neg k2, if_neg k3, if_neg k1, if_neg k2, if_neg k3]; simp
theorem putM_ok {m : MV} (h : (putM m).2 = 0) : (1 ≤ m.kind ∧ m.kind ≤ 4) ∧ rightM m ∧ (bodyB m).length ≤ 4077 ∧ putM m = (List.replicate 16 255 ++ twoB ((bodyB m).length + 19 : Nat) ++ m.kind :: bodyB m, 0) := by
 unfold putM at h ⊢
 split at h
 ·exact absurd h (by decide)
 ·rename_i h1
  split at h
  ·exact absurd h (by decide)
  ·rename_i h2
   split at h
   ·exact absurd h (by decide)
   ·rename_i h3
    have hr : rightM m := by by_cases h : rightM m; exact h; exact absurd h h2
    refine ⟨by omega, hr, by omega, ?_⟩
    rw [if_neg h1, if_neg h2, if_neg h3]
theorem putM_len {m : MV} (h : (putM m).2 = 0) : (putM m).1.length = (bodyB m).length + 19 := by
 obtain ⟨_, _, _, e⟩ := putM_ok h
 rw [e]; simp [twoB]
theorem readM_put {m : MV} (h : (putM m).2 = 0) (hg : goodM m) (ys : List Int) : readM ((putM m).1 ++ ys) = (ownM m, ((putM m).1.length : Int), (0, 0)) := by
 have hlen := putM_len h
 obtain ⟨hk, hr, hl, e⟩ := putM_ok h
 obtain ⟨b1, b2⟩ := bodyB_least hk
 have e1 : (putM m).1 = List.replicate 16 255 ++ twoB ((bodyB m).length + 19 : Nat) ++ m.kind :: bodyB m := by rw [e]
 rw [e1] at hlen ⊢
 have hp : pairAt (List.replicate 16 255 ++ twoB ((bodyB m).length + 19 : Nat) ++ m.kind :: bodyB m ++ ys) 16 = (bodyB m).length + 19 := by
  have := pairAt_two (n := (((bodyB m).length + 19 : Nat) : Int)) (by omega) (List.replicate 16 255) (m.kind :: bodyB m ++ ys)
  rw [List.length_replicate] at this
  rw [show List.replicate 16 255 ++ twoB ((bodyB m).length + 19 : Nat) ++ m.kind :: bodyB m ++ ys = List.replicate 16 255 ++ twoB ((bodyB m).length + 19 : Nat) ++ (m.kind :: bodyB m ++ ys) by simp, this]
  omega
 have h18 : (List.replicate 16 255 ++ twoB ((bodyB m).length + 19 : Nat) ++ m.kind :: bodyB m ++ ys).getD 18 0 = m.kind := rfl
 have hd : ((List.replicate 16 255 ++ twoB ((bodyB m).length + 19 : Nat) ++ m.kind :: bodyB m ++ ys).drop 19).take (bodyB m).length = bodyB m := by
  have : (List.replicate 16 255 ++ twoB ((bodyB m).length + 19 : Nat) ++ m.kind :: bodyB m ++ ys).drop 19 = bodyB m ++ ys := rfl
  rw [this, List.take_left]
 have hf : headF (List.replicate 16 255 ++ twoB ((bodyB m).length + 19 : Nat) ++ m.kind :: bodyB m ++ ys) = (0, 0) := by
  unfold headF
  rw [hp, h18, if_neg (by omega), if_neg (by omega), if_neg (by omega)]
 unfold readM
 rw [if_neg (by
  rintro ⟨x, hx, hne⟩
  have : (List.replicate 16 255 ++ twoB ((bodyB m).length + 19 : Nat) ++ m.kind :: bodyB m ++ ys).take 16 = List.replicate 16 255 := rfl
  rw [this] at hx
  exact hne (List.eq_of_mem_replicate hx)), if_neg (by rw [List.length_append, hlen]; omega), hf, if_neg (by simp), hp, if_neg (by rw [List.length_append, hlen]; omega), h18, show ((bodyB m).length + 19 : Int).toNat - 19 = (bodyB m).length by omega, hd, body_put hk hr hg hl, if_pos rfl, hlen]
 rfl
def bytesL (b : List Int) : Prop := ∀ x ∈ b, 0 ≤ x ∧ x ≤ 255
theorem bytesL.drop {b : List Int} (h : bytesL b) (n : Nat) : bytesL (b.drop n) := fun x hx => h x (List.mem_of_mem_drop hx)
theorem bytesL.take {b : List Int} (h : bytesL b) (n : Nat) : bytesL (b.take n) := fun x hx => h x (List.mem_of_mem_take hx)
theorem pairAt_rng {b : List Int} (h : bytesL b) (i : Nat) : 0 ≤ pairAt b i ∧ pairAt b i ≤ 65535 := by
 have h0 := getD_byte h i
 have h1 := getD_byte h (i + 1)
 unfold isByte at h0 h1
 unfold pairAt
 omega
theorem capP_u32 : ∀ {f : Nat} {v : List Int} {a : Int} {has : Bool} {r : Int × Bool}, bytesL v → u32 a → capP f v a has = some r → u32 r.1
 | 0, _, _, _, _, _, _, h => by cases h
 | f + 1, v, a, has, r, hb, ha, h => by
  unfold capP at h
  split at h
  ·cases h; exact ha
  ·split at h
   ·cases h
   ·refine capP_u32 (hb.drop _) ?_ h
    split
    ·exact wordAt_u32 hb 2
    ·exact ha
theorem parP_u32 : ∀ {f : Nat} {v : List Int} {a : Int} {has : Bool} {r : Int × Bool}, bytesL v → u32 a → parP f v a has = .inr r → u32 r.1
 | 0, _, _, _, _, _, _, h => by cases h
 | f + 1, v, a, has, r, hb, ha, h => by
  unfold parP at h
  split at h
  ·cases h; exact ha
  ·split at h
   ·cases h
   ·split at h
    ·cases h
    ·split at h
     ·cases h
     ·rename_i a' has' hc
      exact parP_u32 (hb.drop _) (capP_u32 ((hb.drop 2).take _) ha hc) h
theorem parP_code : ∀ {f : Nat} {v : List Int} {a : Int} {has : Bool} {s : Int}, parP f v a has = .inl s → s = 0 ∨ s = 4
 | 0, _, _, _, _, h => by cases h; exact .inl rfl
 | f + 1, v, a, has, s, h => by
  unfold parP at h
  split at h
  ·cases h
  ·split at h
   ·cases h; exact .inl rfl
   ·split at h
    ·cases h; exact .inr rfl
    ·split at h
     ·cases h; exact .inl rfl
     ·exact parP_code h
theorem openP_spec {b : List Int} (hb : bytesL b) : ((openP b).2 = (0, 0) ∧ (openP b).1.kind = 1 ∧ rightM (openP b).1 ∧ goodM (openP b).1 ∧ ownM (openP b).1 = (openP b).1) ∨
  ((openP b).2.1 = 2 ∧ ((openP b).2.2 = 0 ∨ (openP b).2.2 = 1 ∨ (openP b).2.2 = 2 ∨ (openP b).2.2 = 3 ∨ (openP b).2.2 = 4 ∨ (openP b).2.2 = 6 ∨ (openP b).2.2 = 7)) := by
 unfold openP
 split
 ·exact .inr ⟨rfl, by simp⟩
 split
 ·exact .inr ⟨rfl, by simp⟩
 split
 ·rename_i s hs
  refine .inr ⟨rfl, ?_⟩
  rcases parP_code hs with rfl | rfl <;> simp
 ·rename_i a has hs
  split
  ·exact .inr ⟨rfl, by simp⟩
  split
  ·exact .inr ⟨rfl, by simp⟩
  split
  ·exact .inr ⟨rfl, by simp⟩
  split
  ·exact .inr ⟨rfl, by simp⟩
  ·rename_i h1 h2 h3 h4
   have ha := parP_u32 (hb.drop 10) (show u32 0 by unfold u32; omega) hs
   have hp := pairAt_rng hb 3
   refine .inl ⟨rfl, rfl, ?_, ?_, ?_⟩
   ·unfold rightM
    rw [if_pos rfl]
    exact ⟨fun e => h2 (.inl e), h4, by show pairAt b 3 = 0 ∨ (3 ≤ pairAt b 3 ∧ pairAt b 3 ≤ 65535); omega⟩
   ·refine ⟨ha, wordAt_u32 hb 5, by simp [MV.zero], by simp [MV.zero], ?_, by simp [MV.zero]⟩
    exact partP_zero.2.2.2.2.2.2.2.2.2
   ·unfold ownM; rw [if_pos rfl]
theorem rd_code {need : Bool} : ∀ {f : Nat} {xs : List Int} {met : Int → Bool} {a : AV}, (readP need f xs met a).2 = 0 ∨ (readP need f xs met a).2 = 1 ∨ (readP need f xs met a).2 = 2 ∨ (readP need f xs met a).2 = 3 ∨ (readP need f xs met a).2 = 4 ∨ (readP need f xs met a).2 = 5 ∨ (readP need f xs met a).2 = 6 ∨ (readP need f xs met a).2 = 8 ∨ (readP need f xs met a).2 = 9 ∨ (readP need f xs met a).2 = 11
 | 0, _, _, _ => .inl rfl
 | f + 1, xs, met, a => by
  by_cases hx : xs = []
  ·subst hx
   rw [readP_nil]
   split
   ·simp
   ·simp
  ·rw [readP_step _ _ _ _ _ hx]
   split
   ·simp
   ·split
    ·exact rd_code
    ·unfold stepE takeP
     repeat' split
     all_goals simp
theorem updateP_spec {b : List Int} (hb : bytesL b) : ((updateP b).2 = (0, 0) ∧ (updateP b).1.kind = 2 ∧ rightM (updateP b).1 ∧ goodM (updateP b).1) ∨
  ((updateP b).2.1 = 3 ∧ ((updateP b).2.2 = 1 ∨ (updateP b).2.2 = 2 ∨ (updateP b).2.2 = 3 ∨ (updateP b).2.2 = 4 ∨ (updateP b).2.2 = 5 ∨ (updateP b).2.2 = 6 ∨ (updateP b).2.2 = 8 ∨ (updateP b).2.2 = 9 ∨ (updateP b).2.2 = 10 ∨ (updateP b).2.2 = 11)) := by
 unfold updateP
 split
 ·exact .inr ⟨rfl, by simp⟩
 split
 ·exact .inr ⟨rfl, by simp⟩
 split
 ·rename_i h
  refine .inr ⟨rfl, ?_⟩
  have := rd_code (need := decide ((nlR (b.drop (4 + updG b + updA b))).1 ≠ [])) (f := ((b.drop (4 + updG b)).take (updA b)).length + 1) (xs := (b.drop (4 + updG b)).take (updA b)) (met := fun _ => false) (a := AV.zero)
  unfold rdP at h ⊢
  simp only at h ⊢
  omega
 ·rename_i h1 h2 h
  have h' : (rdP (decide ((nlR (b.drop (4 + updG b + updA b))).1 ≠ [])) ((b.drop (4 + updG b)).take (updA b))).2 = 0 := by
   by_cases e : (rdP (decide ((nlR (b.drop (4 + updG b + updA b))).1 ≠ [])) ((b.drop (4 + updG b)).take (updA b))).2 = 0
   ·exact e
   ·exact absurd e h
  refine .inl ⟨rfl, rfl, ?_, ?_⟩
  ·unfold rightM
   rw [if_neg (by simp), if_pos rfl]
   refine ⟨fun p hp => (nlRead_right ((hb.drop 2).take _) p hp).1, fun p hp => (nlRead_right (hb.drop _) p hp).1, ?_⟩
   by_cases hn : (nlR (b.drop (4 + updG b + updA b))).1 = []
   ·exact .inl hn
   ·refine .inr ?_
    rw [decide_eq_true hn] at h' ⊢
    exact (rd_right ((hb.drop _).take _) h').1
  ·have hrd : ∀ need : Bool, goodAV (rdP need ((b.drop (4 + updG b)).take (updA b))).1 := fun need => by
    by_cases e : (rdP need ((b.drop (4 + updG b)).take (updA b))).2 = 0
    ·unfold rdP at *
     obtain ⟨ks, r1, r2⟩ := rd_of (by omega) e
     exact (r1.part ((hb.drop _).take _) partP_zero).2.2.2.2.2.2.2.2.2
    ·rw [rd_wrong e]; exact partP_zero.2.2.2.2.2.2.2.2.2
   exact ⟨by unfold u32; simp [MV.zero], by unfold u32; simp [MV.zero], fun p hp => (nlRead_right ((hb.drop 2).take _) p hp).2, fun p hp => (nlRead_right (hb.drop _) p hp).2, hrd _, by simp [MV.zero]⟩
theorem bodyP_spec {b : List Int} {k : Int} (hk : 1 ≤ k ∧ k ≤ 4) (hb : bytesL b) : ((bodyP k b).2 = (0, 0) ∧ (bodyP k b).1.kind = k ∧ rightM (bodyP k b).1 ∧ goodM (bodyP k b).1) ∨
  ((bodyP k b).2.1 = 2 ∧ ((bodyP k b).2.2 = 0 ∨ (bodyP k b).2.2 = 1 ∨ (bodyP k b).2.2 = 2 ∨ (bodyP k b).2.2 = 3 ∨ (bodyP k b).2.2 = 4 ∨ (bodyP k b).2.2 = 6 ∨ (bodyP k b).2.2 = 7)) ∨
  ((bodyP k b).2.1 = 3 ∧ ((bodyP k b).2.2 = 1 ∨ (bodyP k b).2.2 = 2 ∨ (bodyP k b).2.2 = 3 ∨ (bodyP k b).2.2 = 4 ∨ (bodyP k b).2.2 = 5 ∨ (bodyP k b).2.2 = 6 ∨ (bodyP k b).2.2 = 8 ∨ (bodyP k b).2.2 = 9 ∨ (bodyP k b).2.2 = 10 ∨ (bodyP k b).2.2 = 11)) := by
 unfold bodyP
 have gz : goodAV AV.zero := partP_zero.2.2.2.2.2.2.2.2.2
 split
 ·rename_i e
  rcases openP_spec hb with ⟨h1, h2, h3, h4, _⟩ | h
  ·exact .inl ⟨h1, by rw [h2, e], h3, h4⟩
  ·exact .inr (.inl h)
 ·split
  ·rename_i e
   rcases updateP_spec hb with ⟨h1, h2, h3, h4⟩ | h
   ·exact .inl ⟨h1, by rw [h2, e], h3, h4⟩
   ·exact .inr (.inr h)
  ·split
   ·rename_i e
    have b0 := getD_byte hb 0
    have b1 := getD_byte hb 1
    refine .inl ⟨rfl, e.symm, ?_, ?_⟩
    ·unfold rightM
     rw [if_neg (by simp), if_neg (by simp), if_pos rfl]
     exact ⟨b0.1, b0.2, b1.1, b1.2⟩
    ·exact ⟨by unfold u32; simp [MV.zero], by unfold u32; simp [MV.zero], by simp [MV.zero], by simp [MV.zero], gz, hb.drop 2⟩
   ·refine .inl ⟨rfl, by show (4 : Int) = k; omega, ?_, ?_⟩
    ·unfold rightM
     rw [if_neg (by simp), if_neg (by simp), if_neg (by simp)]; trivial
    ·exact ⟨by unfold u32; simp [MV.zero], by unfold u32; simp [MV.zero], by simp [MV.zero], by simp [MV.zero], gz, by simp [MV.zero]⟩
theorem headF_cases (b : List Int) : headF b = (1, 2) ∨ headF b = (1, 3) ∨ (headF b = (0, 0) ∧ 19 ≤ pairAt b 16 ∧ pairAt b 16 ≤ 4096 ∧ 1 ≤ b.getD 18 0 ∧ b.getD 18 0 ≤ 4 ∧ leastP (b.getD 18 0) ≤ pairAt b 16 ∧ (b.getD 18 0 = 4 → pairAt b 16 = 19)) := by
 unfold headF
 split
 ·exact .inl rfl
 split
 ·exact .inr (.inl rfl)
 split
 ·exact .inl rfl
 ·refine .inr (.inr ⟨rfl, by omega, by omega, by omega, by omega, by omega, by omega⟩)
theorem readM_cases {b : List Int} (hb : bytesL b) :
  (readM b = (MV.zero, 0, (0, 0))) ∨
  (∃ m, readM b = (m, pairAt b 16, (0, 0)) ∧ 19 ≤ pairAt b 16 ∧ pairAt b 16 ≤ b.length ∧ pairAt b 16 ≤ 4096 ∧ 1 ≤ m.kind ∧ m.kind ≤ 4 ∧ rightM m ∧ goodM m) ∨
  (∃ f, readM b = (MV.zero, 0, f) ∧ f ≠ (0, 0) ∧ ((f.1 = 1 ∧ (f.2 = 1 ∨ f.2 = 2 ∨ f.2 = 3)) ∨ (f.1 = 2 ∧ (f.2 = 0 ∨ f.2 = 1 ∨ f.2 = 2 ∨ f.2 = 3 ∨ f.2 = 4 ∨ f.2 = 6 ∨ f.2 = 7)) ∨
   (f.1 = 3 ∧ (f.2 = 1 ∨ f.2 = 2 ∨ f.2 = 3 ∨ f.2 = 4 ∨ f.2 = 5 ∨ f.2 = 6 ∨ f.2 = 8 ∨ f.2 = 9 ∨ f.2 = 10 ∨ f.2 = 11))) ∧ ∀ ys, readM (b ++ ys) = (MV.zero, 0, f)) := by
 by_cases c1 : ∃ x ∈ b.take 16, x ≠ 255
 ·refine .inr (.inr ⟨(1, 1), by unfold readM; rw [if_pos c1], by simp, .inl ⟨rfl, .inl rfl⟩, fun ys => ?_⟩)
  unfold readM
  rw [if_pos]
  obtain ⟨x, hx, hne⟩ := c1
  refine ⟨x, ?_, hne⟩
  rw [List.take_append]
  exact List.mem_append_left _ hx
 by_cases c2 : b.length < 19
 ·exact .inl (by unfold readM; rw [if_neg c1, if_pos c2])
 have g16 : ∀ ys, pairAt (b ++ ys) 16 = pairAt b 16 := fun ys => pairAt_app (by omega)
 have g18 : ∀ ys, (b ++ ys).getD 18 0 = b.getD 18 0 := fun ys => getD_app (by omega)
 have t16 : ∀ ys, (b ++ ys).take 16 = b.take 16 := fun ys => by rw [List.take_append_of_le_length (by omega)]
 have hh : ∀ ys, headF (b ++ ys) = headF b := fun ys => by unfold headF; rw [g16, g18]
 have l19 : ∀ ys, ¬ (b ++ ys).length < 19 := fun ys => by rw [List.length_append]; omega
 by_cases c3 : headF b = (0, 0)
 rotate_left
 ·have hf : readM b = (MV.zero, 0, headF b) ∧ ∀ ys, readM (b ++ ys) = (MV.zero, 0, headF b) := by
   refine ⟨by unfold readM; rw [if_neg c1, if_neg c2, if_pos c3], fun ys => ?_⟩
   unfold readM; rw [t16, if_neg c1, if_neg (l19 ys), hh, if_pos c3]
  refine .inr (.inr ⟨headF b, hf.1, c3, ?_, hf.2⟩)
  rcases headF_cases b with h | h | h
  ·rw [h]; simp
  ·rw [h]; simp
  ·exact absurd h.1 c3
 obtain ⟨q1, q2, q3, q4, q5, q6⟩ : 19 ≤ pairAt b 16 ∧ pairAt b 16 ≤ 4096 ∧ 1 ≤ b.getD 18 0 ∧ b.getD 18 0 ≤ 4 ∧ leastP (b.getD 18 0) ≤ pairAt b 16 ∧ (b.getD 18 0 = 4 → pairAt b 16 = 19) := by
  rcases headF_cases b with h | h | h
  ·rw [h] at c3; cases c3
  ·rw [h] at c3; cases c3
  ·exact h.2
 by_cases c4 : (b.length : Int) < pairAt b 16
 ·exact .inl (by unfold readM; rw [if_neg c1, if_neg c2, if_neg (by simp [c3]), if_pos c4])
 have d19 : ∀ ys, ((b ++ ys).drop 19).take ((pairAt b 16).toNat - 19) = (b.drop 19).take ((pairAt b 16).toNat - 19) := fun ys => by
  rw [List.drop_append_of_le_length (by omega), List.take_append_of_le_length (by rw [List.length_drop]; omega)]
 have hbb : bytesL ((b.drop 19).take ((pairAt b 16).toNat - 19)) := (hb.drop 19).take _
 have hbs := bodyP_spec (k := b.getD 18 0) ⟨q3, q4⟩ hbb
 by_cases c5 : (bodyP (b.getD 18 0) ((b.drop 19).take ((pairAt b 16).toNat - 19))).2 = (0, 0)
 ·refine .inr (.inl ⟨(bodyP (b.getD 18 0) ((b.drop 19).take ((pairAt b 16).toNat - 19))).1, ?_, q1, by omega, q2, ?_⟩)
  ·unfold readM; rw [if_neg c1, if_neg c2, if_neg (by simp [c3]), if_neg c4, if_pos c5]
  ·rcases hbs with ⟨_, h2, h3, h4⟩ | ⟨h, _⟩ | ⟨h, _⟩
   ·exact ⟨by omega, by omega, h3, h4⟩
   ·rw [c5] at h; cases h
   ·rw [c5] at h; cases h
 ·refine .inr (.inr ⟨(bodyP (b.getD 18 0) ((b.drop 19).take ((pairAt b 16).toNat - 19))).2, ?_, c5, ?_, fun ys => ?_⟩)
  ·unfold readM; rw [if_neg c1, if_neg c2, if_neg (by simp [c3]), if_neg c4, if_neg c5]
  ·rcases hbs with ⟨h, _⟩ | h | h
   ·exact absurd h c5
   ·exact .inr (.inl h)
   ·exact .inr (.inr h)
  ·unfold readM
   rw [t16, if_neg c1, if_neg (l19 ys), hh, if_neg (by simp [c3]), g16, g18, d19, if_neg (by rw [List.length_append]; omega), if_neg c5]
end Go.Proofs.Ytbdejnnbpdgjlaa.Ax
