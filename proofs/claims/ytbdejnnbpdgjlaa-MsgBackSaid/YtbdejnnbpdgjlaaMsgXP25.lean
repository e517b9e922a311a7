/- Contracts of functions over the abstract machine. No conditions: lemmas alone. -/
import Derived.Test.YtbdejnnbpdgjlaaMsgXLibD
import Derived.Test.YtbdejnnbpdgjlaaMsgXP17
import Derived.Test.YtbdejnnbpdgjlaaMsgXP20
import Derived.Test.YtbdejnnbpdgjlaaMsgXP0
import Derived.Test.YtbdejnnbpdgjlaaMsgXP24
namespace Go.Proofs.Ytbdejnnbpdgjlaa.Ax
open Go Go.RowKit
set_option linter.unusedVariables false
set_option linter.unusedSimpArgs false
set_option maxRecDepth 100000
set_option maxHeartbeats 20000000
/-! how great what is read may be -/
theorem nlRead_len : ∀ (f : Nat) (xs : List Int), (nlRead f xs).1.length ≤ xs.length
  | 0, xs => by simp [nlRead]
  | f + 1, xs => by
    unfold nlRead
    split
    · simp
    · rename_i h
      have hp := List.length_pos_iff.2 h
      split
      · simp
      · split
        · simp
        · have ih := nlRead_len f (xs.drop (1 + nbytes (xs.getD 0 0)))
          rw [List.length_drop] at ih
          generalize nlRead f _ = r at *
          obtain ⟨r1, r2⟩ := r
          have : 1 ≤ xs.length := hp
          simp only at ih ⊢
          split <;> simp <;> omega
theorem nlR_len (xs : List Int) : (nlR xs).1.length ≤ xs.length := nlRead_len _ xs
theorem readM_size {b : List Int} (hb : bytesL b) (hl : b.length ≤ 10000000) : sizeM (readM b).1 := by
  have z : sizeM MV.zero := by simp [sizeM, MV.zero, AV.zero]
  unfold readM
  split
  · exact z
  split
  · exact z
  split
  · exact z
  split
  · exact z
  split
  · rename_i c1 c2 c3 c4 c5
    rcases headF_cases b with h | h | ⟨_, h1, h2, h3, h4, _, _⟩
    · exact absurd (by rw [h]; simp) c3
    · exact absurd (by rw [h]; simp) c3
    have hbb : bytesL ((b.drop 19).take ((pairAt b 16).toNat - 19)) := (hb.drop 19).take _
    have hln : ((b.drop 19).take ((pairAt b 16).toNat - 19)).length ≤ 4077 := by rw [List.length_take]; omega
    generalize (b.drop 19).take ((pairAt b 16).toNat - 19) = B at *
    show sizeM (bodyP (b.getD 18 0) B).1
    unfold bodyP
    split
    · unfold openP
      split
      · exact z
      split
      · exact z
      split
      · exact z
      · split
        · exact z
        split
        · exact z
        split
        · exact z
        split
        · exact z
        · simp [sizeM, MV.zero, AV.zero]
    split
    · unfold updateP
      split
      · exact z
      split
      · exact z
      split
      · exact z
      · have a1 := nlR_len ((B.drop 2).take (updG B))
        have a2 := nlR_len (B.drop (4 + updG B + updA B))
        have a3 := rd_len (need := decide ((nlR (B.drop (4 + updG B + updA B))).1 ≠ [])) (xs := (B.drop (4 + updG B)).take (updA B)) ((hbb.drop _).take _)
        have b1 : ((B.drop 2).take (updG B)).length ≤ 4077 := by rw [List.length_take, List.length_drop]; omega
        have b2 : (B.drop (4 + updG B + updA B)).length ≤ 4077 := by rw [List.length_drop]; omega
        unfold sizeM
        refine ⟨?_, ?_, by simp [MV.zero], ?_, ?_⟩
        · show (nlR ((B.drop 2).take (updG B))).1.length ≤ 20000
          omega
        · show (nlR (B.drop (4 + updG B + updA B))).1.length ≤ 20000
          omega
        · show (rdP _ _).1.path.length ≤ 100000
          omega
        · show (rdP _ _).1.comms.length ≤ 100000
          omega
    split
    · unfold sizeM
      refine ⟨by simp [MV.zero], by simp [MV.zero], ?_, by simp [MV.zero, AV.zero], by simp [MV.zero, AV.zero]⟩
      show (B.drop 2).length ≤ 20000
      rw [List.length_drop]; omega
    · simp [sizeM, MV.zero, AV.zero]
  · exact z
/-- Putting what may be: it goes in, or it is too long. -/
theorem putM_or {m : MV} (hk : 1 ≤ m.kind ∧ m.kind ≤ 4) (hr : rightM m) : (putM m).2 = 0 ∨ (putM m).2 = 6 := by
  unfold putM
  rw [if_neg (by omega), if_neg (by simp [hr])]
  split
  · exact .inr rfl
  · exact .inl rfl
theorem putM_bytes {m : MV} (hg : goodM m) : (putM m).1.length ≤ 4096 := by
  unfold putM
  split
  · simp
  split
  · simp
  split
  · simp
  · rename_i h1 h2 h3
    simp [twoB]
    omega
theorem twoB_byte (n : Int) : ∀ x ∈ twoB n, 0 ≤ x ∧ x ≤ 255 := by
  intro x hx
  simp [twoB] at hx
  omega
theorem addrBytes_byte {x : Int} (h : u32 x) : ∀ y ∈ addrBytes x, 0 ≤ y ∧ y ≤ 255 := by
  intro y hy
  unfold u32 at h
  simp [addrBytes] at hy
  omega
theorem nlPut_byte : ∀ {l : List PX} {bs : List Int}, nlPut l = some bs → (∀ p ∈ l, goodX p) → ∀ x ∈ bs, 0 ≤ x ∧ x ≤ 255
  | [], bs, h, _ => by
    have : bs = [] := by simpa [nlPut] using h.symm
    subst this; simp
  | p :: l, bs, h, hg => by
    unfold nlPut at h
    split at h
    · rename_i hr
      obtain ⟨r, hr', rfl⟩ := Option.map_eq_some_iff.1 h
      have ih := nlPut_byte hr' (fun q hq => hg q (List.mem_cons_of_mem _ hq))
      intro x hx
      rcases List.mem_append.1 hx with hx | hx
      · unfold putX at hx
        rcases List.mem_cons.1 hx with rfl | hx
        · have := rightX_len hr; omega
        · exact addrBytes_byte (hg p (by simp)) x (List.mem_of_mem_take hx)
      · exact ih x hx
    · cases h
theorem putM_byteL {m : MV} {bs : List Int} (hg : goodM m) (h : putM m = (bs, 0)) : ∀ x ∈ bs, 0 ≤ x ∧ x ≤ 255 := by
  obtain ⟨hk, hr, hl, he⟩ := putM_ok (m := m) (by rw [h])
  rw [h] at he
  obtain rfl := (Prod.mk.inj he).1
  obtain ⟨u1, u2, u3, u4, u5, u6⟩ := hg
  intro x hx
  rcases List.mem_append.1 hx with hx | hx
  · rcases List.mem_append.1 hx with hx | hx
    · have := List.eq_of_mem_replicate hx; omega
    · exact twoB_byte _ x hx
  rcases List.mem_cons.1 hx with rfl | hx
  · omega
  unfold bodyB at hx
  by_cases k1 : m.kind = 1
  · rw [if_pos k1] at hx
    simp only [List.mem_append, List.mem_cons, List.not_mem_nil, or_false] at hx
    rcases hx with ((((rfl | h) | h) | h) | h) | h
    · omega
    · exact twoB_byte _ x h
    · exact twoB_byte _ x h
    · exact addrBytes_byte u2 x h
    · omega
    · exact addrBytes_byte u1 x h
  rw [if_neg k1] at hx
  by_cases k2 : m.kind = 2
  · rw [if_pos k2] at hx
    unfold rightM at hr
    rw [if_neg k1, if_pos k2] at hr
    obtain ⟨gb, hgb⟩ := nlPut_some hr.1
    obtain ⟨nb, hnb⟩ := nlPut_some hr.2.1
    rw [hgb, hnb] at hx
    simp only [Option.getD_some, List.mem_append] at hx
    rcases hx with (((h | h) | h) | h) | h
    · exact twoB_byte _ x h
    · exact nlPut_byte hgb u3 x h
    · exact twoB_byte _ x h
    · unfold attrsB at h
      split at h
      · cases h
      · rename_i hn
        exact (putP_bytes (hr.2.2.resolve_left hn) u5).1 x h
    · exact nlPut_byte hnb u4 x h
  rw [if_neg k2] at hx
  by_cases k3 : m.kind = 3
  · rw [if_pos k3] at hx
    unfold rightM at hr
    rw [if_neg k1, if_neg k2, if_pos k3] at hr
    rcases List.mem_cons.1 hx with rfl | hx
    · omega
    rcases List.mem_cons.1 hx with rfl | hx
    · omega
    exact u6 x hx
  · rw [if_neg k3] at hx; cases hx
theorem ownM_size {m : MV} (h : sizeM m) : sizeM (ownM m) := by
  obtain ⟨h1, h2, h3, h4, h5⟩ := h
  unfold ownM
  split
  · simp [sizeM, MV.zero, AV.zero]
  split
  · refine ⟨h1, h2, by simp [MV.zero], ?_, ?_⟩
    · show (if m.new = [] then AV.zero else m.attrs).path.length ≤ 100000
      split
      · simp [AV.zero]
      · exact h4
    · show (if m.new = [] then AV.zero else m.attrs).comms.length ≤ 100000
      split
      · simp [AV.zero]
      · exact h5
  split
  · exact ⟨by simp [MV.zero], by simp [MV.zero], h3, by simp [MV.zero, AV.zero], by simp [MV.zero, AV.zero]⟩
  · simp [sizeM, MV.zero, AV.zero]

end Go.Proofs.Ytbdejnnbpdgjlaa.Ax

namespace Go.Proofs.Ytbdejnnbpdgjlaa.Ax
open Go Go.RowKit
set_option linter.unusedVariables false
set_option linter.unusedSimpArgs false
set_option maxRecDepth 100000
set_option maxHeartbeats 20000000
/-! what comes in, kind by kind; structs by their fields -/
def KInt (k : IntKind) (M : Mem) (acs : List Value) : Prop := ∃ n, (Lit.int k n).wf = true ∧ acs = [.int k n]
def KBool (M : Mem) (acs : List Value) : Prop := ∃ b, acs = [.bool b]
def KSl (k : IntKind) (M : Mem) (acs : List Value) : Prop := ∃ v xs, acs = [v] ∧ (∀ x ∈ xs, (Lit.int k x).wf = true) ∧ xs.length ≤ maxLen ∧ Sl M v 1 (ints k xs)
def Keeps (K : Mem → List Value → Prop) : Prop := ∀ M Y acs, K M acs → K (M ++ Y) acs
def KAll : List (Mem → List Value → Prop) → Mem → List Value → Prop
  | [], _, acs => acs = []
  | K :: Ks, M, acs => ∃ a b, acs = a ++ b ∧ K M a ∧ KAll Ks M b
theorem KInt.keeps (k : IntKind) : Keeps (KInt k) := fun _ _ _ h => h
theorem KBool.keeps : Keeps KBool := fun _ _ _ h => h
theorem KSl.keeps (k : IntKind) : Keeps (KSl k) := fun M Y acs ⟨v, xs, h1, h2, h3, h4⟩ => ⟨v, xs, h1, h2, h3, h4.app Y⟩
def KeepsAll : List (Mem → List Value → Prop) → Prop
  | [] => True
  | K :: Ks => Keeps K ∧ KeepsAll Ks
theorem KAll.keeps : ∀ {Ks : List (Mem → List Value → Prop)}, KeepsAll Ks → Keeps (KAll Ks)
  | [], _ => fun _ _ _ h => h
  | K :: Ks, ⟨h1, h2⟩ => fun M Y acs ⟨a, b, e, k1, k2⟩ => ⟨a, b, e, h1 M Y a k1, KAll.keeps h2 M Y b k2⟩
section
variable {P : Program} {W : World} {t e : TypeId}
theorem rd_int {k : IntKind} (ht : P.underlying t = some (.int k)) : Reads P W t (KInt k) := by
  intro H en base held n cs x hx ι N0 M hN hm
  obtain ⟨ι', X, acs, h1, h2, h3, y, h4, h5⟩ := (flat_int (W := W) ht).reads (fun y => by rfl) H en base held n cs x hx ι N0 M hN hm
  exact ⟨ι', X, acs, h1, h2, h3, y, h4, h5⟩
theorem rd_bool (ht : P.underlying t = some .bool) : Reads P W t KBool := by
  intro H en base held n cs x hx ι N0 M hN hm
  obtain ⟨ι', X, acs, h1, h2, h3, y, h4, h5⟩ := (flat_bool (W := W) ht).reads (fun y => by rfl) H en base held n cs x hx ι N0 M hN hm
  exact ⟨ι', X, acs, h1, h2, h3, y, h5⟩
theorem flatMap_ints (k : IntKind) (xs : List Int) : xs.flatMap (fun n => [Value.int k n]) = ints k xs := by
  induction xs with
  | nil => rfl
  | cons x xs ih => rw [List.flatMap_cons, ih]; rfl
theorem rd_sl {k : IntKind} (ht : P.underlying t = some (.slice e)) (he : P.cellsOf e = 1) (hu : P.underlying e = some (.int k)) : Reads P W t (KSl k) := by
  intro H en base held n cs x hx ι N0 M hN hm
  obtain ⟨ι', X, acs, h1, h2, h3, v, xs, h4, h5, h6, h7⟩ := reads_slice ht he (by omega) (flat_int (W := W) hu) (fun y => by rfl) (fun y => by rfl) (fun y => by rfl) H en base held n cs x hx ι N0 M hN hm
  rw [flatMap_ints] at h7
  exact ⟨ι', X, acs, h1, h2, h3, v, xs, h4, h5, h6, h7⟩
theorem wf_u8 {x : Int} (h : (Lit.int .u8 x).wf = true) : 0 ≤ x ∧ x ≤ 255 := by simp [Lit.wf, IntKind.min, IntKind.max, IntKind.signed, IntKind.bits] at h; omega
theorem wf_u16 {x : Int} (h : (Lit.int .u16 x).wf = true) : 0 ≤ x ∧ x ≤ 65535 := by simp [Lit.wf, IntKind.min, IntKind.max, IntKind.signed, IntKind.bits] at h; omega
theorem wf_u32 {x : Int} (h : (Lit.int .u32 x).wf = true) : 0 ≤ x ∧ x ≤ 4294967295 := by simp [Lit.wf, IntKind.min, IntKind.max, IntKind.signed, IntKind.bits] at h; omega
def RAll (P : Program) (W : World) : List Field → List (Mem → List Value → Prop) → Prop
  | [], [] => True
  | f :: l, K :: Ks => Reads P W f.type K ∧ Keeps K ∧ RAll P W l Ks
  | _, _ => False
/-- The fields lie one behind the other. -/
def offsB (P : Program) : Nat → List Field → Nat → Bool
  | o, [], n => o == n
  | o, f :: l, n => f.offset == o && offsB P (o + P.cellsOf f.type) l n
theorem rd_fields {H : Type} {en : TypeId × Value → H} {base : Nat} {held : Bool} {m : Nat} {cs : List Value} : ∀ (l : List Field) (Ks : List (Mem → List Value → Prop)) (o : Nat), RAll P W l Ks → offsB P o l cs.length = true →
    (∀ f ∈ l, ∃ x, DataW.trod en P W base (fun _ => true) held m f.type ((cs.drop f.offset).take (P.cellsOf f.type)) = some x) →
    ∀ ι (N0 : Base) M, N0.n = W.heap.size → MRel ι N0 M W → ∃ ι' X acs, (∀ b l, ι b = some l → ι' b = some l) ∧ MRel ι' N0 (M ++ X) W ∧ LRel ι' acs (cs.drop o) ∧ KAll Ks (M ++ X) acs ∧ KeepsAll Ks
  | [], [], o, _, ho, _, ι, N0, M, hN, hm => by
    have ho' : o = cs.length := by simpa [offsB] using ho
    exact ⟨ι, [], [], fun _ _ h => h, by simpa using hm, by rw [ho', List.drop_length]; exact .nil, rfl, trivial⟩
  | f :: l, K :: Ks, o, ⟨h1, h2, h3⟩, ho, hx, ι, N0, M, hN, hm => by
    simp only [offsB, Bool.and_eq_true, beq_iff_eq] at ho
    obtain ⟨x, hx0⟩ := hx f (by simp)
    obtain ⟨ι1, X1, a1, i1, m1, r1, k1⟩ := h1 H en base held m _ x hx0 ι N0 M hN hm
    obtain ⟨ι2, X2, a2, i2, m2, r2, k2, kk⟩ := rd_fields l Ks _ h3 ho.2 (fun g hg => hx g (List.mem_cons_of_mem _ hg)) ι1 N0 (M ++ X1) hN m1
    refine ⟨ι2, X1 ++ X2, a1 ++ a2, fun b l h => i2 b l (i1 b l h), by rw [← List.append_assoc]; exact m2, ?_, ⟨a1, a2, rfl, ?_, ?_⟩, h2, kk⟩
    · rw [show cs.drop o = (cs.drop f.offset).take (P.cellsOf f.type) ++ cs.drop (o + P.cellsOf f.type) by rw [ho.1, ← List.drop_drop, List.take_append_drop]]
      exact (r1.mono i2).append r2
    · rw [← List.append_assoc]; exact h2 _ _ _ k1
    · rw [← List.append_assoc]; exact k2
  | [], _ :: _, _, h, _, _, _, _, _, _, _ => h.elim
  | _ :: _, [], _, h, _, _, _, _, _, _, _ => h.elim
theorem rd_struct {fs : Array Field} {Ks : List (Mem → List Value → Prop)} (ht : P.underlying t = some (.struct fs)) (hs : offsB P 0 fs.toList (P.cellsOf t) = true) (hr : RAll P W fs.toList Ks) : Reads P W t (KAll Ks) := by
  intro H en base held n cs x hx ι N0 M hN hm
  obtain ⟨xs, m, _, _, hlen, hxl, hf⟩ := DataW.trod_struct ht hx
  obtain ⟨ι', X, acs, h1, h2, h3, h4, _⟩ := rd_fields (en := en) (base := base) (held := held) (m := m) (cs := cs) fs.toList Ks 0 hr (by rw [hlen]; exact hs) (fun f hf' => by
    obtain ⟨i, hi, e⟩ := List.mem_iff_getElem.1 hf'
    have hg : fs[i]? = some f := by rw [← Array.getElem?_toList, List.getElem?_eq_getElem hi, e]
    have hi' : i < xs.length := by rw [hxl]; simpa using hi
    exact ⟨xs[i], by rw [hf i f hg, List.getElem?_eq_getElem hi']⟩) ι N0 M hN hm
  exact ⟨ι', X, acs, h1, h2, by simpa using h3, h4⟩
end
/-! slices of structs of numbers -/
def zipI : List IntKind → List Int → List Value
  | [], _ => []
  | k :: ks, ns => .int k (ns.headD 0) :: zipI ks ns.tail
def goodI : List IntKind → List Int → Prop
  | [], ns => ns = []
  | k :: ks, ns => (Lit.int k (ns.headD 0)).wf = true ∧ ns ≠ [] ∧ goodI ks ns.tail
theorem zipI_length : ∀ (ks : List IntKind) (ns : List Int), (zipI ks ns).length = ks.length
  | [], _ => rfl
  | k :: ks, ns => by simp [zipI, zipI_length ks ns.tail]
theorem zipI_flat : ∀ (ks : List IntKind) (ns : List Int), (zipI ks ns).all flat = true
  | [], _ => rfl
  | k :: ks, ns => by simp [zipI, flat, zipI_flat ks ns.tail]
theorem zipI_one : ∀ (ks : List IntKind) (ns : List Int), (zipI ks ns).all Value.oneCell' = true
  | [], _ => rfl
  | k :: ks, ns => by simp only [zipI, List.all_cons, zipI_one ks ns.tail, Value.oneCell', Bool.and_self]
theorem zipI_append : ∀ (ks ls : List IntKind) (ns ms : List Int), goodI ks ns → zipI (ks ++ ls) (ns ++ ms) = zipI ks ns ++ zipI ls ms
  | [], ls, ns, ms, h => by cases h; rfl
  | k :: ks, ls, ns, ms, ⟨_, hne, h⟩ => by
    cases ns with
    | nil => exact absurd rfl hne
    | cons n ns => simp only [List.cons_append, zipI, List.headD_cons, List.tail_cons, zipI_append ks ls ns ms h]
theorem goodI_append : ∀ {ks ls : List IntKind} {ns ms : List Int}, goodI ks ns → goodI ls ms → goodI (ks ++ ls) (ns ++ ms)
  | [], ls, ns, ms, h, h' => by cases h; exact h'
  | k :: ks, ls, ns, ms, ⟨hw, hne, h⟩, h' => by
    cases ns with
    | nil => exact absurd rfl hne
    | cons n ns => exact ⟨hw, by simp, goodI_append h h'⟩
def FK (P : Program) (W : World) (t : TypeId) (ks : List IntKind) : Prop := FlatR P W t (zipI ks) (goodI ks)
section
variable {P : Program} {W : World} {t e : TypeId}
theorem FK.int {k : IntKind} (ht : P.underlying t = some (.int k)) : FK P W t [k] := by
  intro H en base spare held n cs x h
  obtain ⟨m, rfl, _, hw⟩ := DataW.trod_int ht h
  exact ⟨[m], ⟨hw, by simp, rfl⟩, rfl⟩
def FKs (P : Program) (W : World) : List Field → List (List IntKind) → Prop
  | [], [] => True
  | f :: l, k :: ks => FK P W f.type k ∧ FKs P W l ks
  | _, _ => False
theorem fk_fields {H : Type} {en : TypeId × Value → H} {base : Nat} {spare : Nat → Bool} {held : Bool} {m : Nat} {cs : List Value} : ∀ (l : List Field) (ks : List (List IntKind)) (o : Nat), FKs P W l ks → offsB P o l cs.length = true →
    (∀ f ∈ l, ∃ x, DataW.trod en P W base spare held m f.type ((cs.drop f.offset).take (P.cellsOf f.type)) = some x) →
    ∃ ns, goodI ks.flatten ns ∧ cs.drop o = zipI ks.flatten ns
  | [], [], o, _, ho, _ => by
    have ho' : o = cs.length := by simpa [offsB] using ho
    exact ⟨[], rfl, by rw [ho', List.drop_length]; rfl⟩
  | f :: l, k :: ks, o, ⟨h1, h3⟩, ho, hx => by
    simp only [offsB, Bool.and_eq_true, beq_iff_eq] at ho
    obtain ⟨x, hx0⟩ := hx f (by simp)
    obtain ⟨n1, g1, e1⟩ := h1 H en base spare held m _ x hx0
    obtain ⟨n2, g2, e2⟩ := fk_fields l ks _ h3 ho.2 (fun g hg => hx g (List.mem_cons_of_mem _ hg))
    refine ⟨n1 ++ n2, by rw [List.flatten_cons]; exact goodI_append g1 g2, ?_⟩
    rw [List.flatten_cons, zipI_append _ _ _ _ g1, ← e1, ← e2, ho.1, ← List.drop_drop, List.take_append_drop]
  | [], _ :: _, _, h, _, _ => h.elim
  | _ :: _, [], _, h, _, _ => h.elim
theorem FK.struct {fs : Array Field} {ks : List (List IntKind)} (ht : P.underlying t = some (.struct fs)) (hs : offsB P 0 fs.toList (P.cellsOf t) = true) (hr : FKs P W fs.toList ks) : FK P W t ks.flatten := by
  intro H en base spare held n cs x hx
  obtain ⟨xs, m, _, _, hlen, hxl, hf⟩ := DataW.trod_struct ht hx
  obtain ⟨ns, h1, h2⟩ := fk_fields (en := en) (base := base) (spare := spare) (held := held) (m := m) (cs := cs) fs.toList ks 0 hr (by rw [hlen]; exact hs) (fun f hf' => by
    obtain ⟨i, hi, e⟩ := List.mem_iff_getElem.1 hf'
    have hg : fs[i]? = some f := by rw [← Array.getElem?_toList, List.getElem?_eq_getElem hi, e]
    have hi' : i < xs.length := by rw [hxl]; simpa using hi
    exact ⟨xs[i], by rw [hf i f hg, List.getElem?_eq_getElem hi']⟩)
  exact ⟨ns, h1, by simpa using h2⟩
/-- A slice of structs of numbers. -/
def KSs (ks : List IntKind) (M : Mem) (acs : List Value) : Prop := ∃ (v : Value) (xs : List (List Int)), acs = [v] ∧ (∀ x ∈ xs, goodI ks x) ∧ xs.length ≤ maxLen ∧ Sl M v ks.length (xs.flatMap (zipI ks))
theorem KSs.keeps (ks : List IntKind) : Keeps (KSs ks) := fun M Y acs ⟨v, xs, h1, h2, h3, h4⟩ => ⟨v, xs, h1, h2, h3, h4.app Y⟩
theorem rd_ss {ks : List IntKind} (ht : P.underlying t = some (.slice e)) (he : P.cellsOf e = ks.length) (h0 : 0 < ks.length) (hf : FK P W e ks) : Reads P W t (KSs ks) := by
  intro H en base held n cs x hx ι N0 M hN hm
  exact reads_slice ht he h0 hf (zipI_flat ks) (zipI_one ks) (zipI_length ks) H en base held n cs x hx ι N0 M hN hm
end

end Go.Proofs.Ytbdejnnbpdgjlaa.Ax

namespace Go.Proofs.Ytbdejnnbpdgjlaa.Ax
open Go Go.RowKit
set_option linter.unusedVariables false
set_option linter.unusedSimpArgs false
set_option maxRecDepth 100000
theorem keeps49 : KeepsAll [(KInt .i64), (KSl .u32), (KInt .u32), (KInt .u32), (KInt .u32), KBool, KBool, (KSl .u32)] := ⟨(KInt.keeps _), (KSl.keeps _), (KInt.keeps _), (KInt.keeps _), (KInt.keeps _), KBool.keeps, KBool.keeps, (KSl.keeps _), trivial⟩
theorem rd49 (W : World) : Reads Try.prog W 49 (KAll [(KInt .i64), (KSl .u32), (KInt .u32), (KInt .u32), (KInt .u32), KBool, KBool, (KSl .u32)]) := rd_struct Try.underlying49 (by kernel_rfl) ⟨(rd_int (by kernel_rfl)), (KInt.keeps _), (rd_sl (e := 30) (k := .u32) (by kernel_rfl) (by kernel_rfl) (by kernel_rfl)), (KSl.keeps _), (rd_int (by kernel_rfl)), (KInt.keeps _), (rd_int (by kernel_rfl)), (KInt.keeps _), (rd_int (by kernel_rfl)), (KInt.keeps _), (rd_bool (by kernel_rfl)), KBool.keeps, (rd_bool (by kernel_rfl)), KBool.keeps, (rd_sl (e := 30) (k := .u32) (by kernel_rfl) (by kernel_rfl) (by kernel_rfl)), (KSl.keeps _), trivial⟩
theorem keeps59 : KeepsAll [(KInt .i64), (KInt .u32), (KInt .u32), (KInt .i64), (KSs [.u32, .i64]), (KAll [(KInt .i64), (KSl .u32), (KInt .u32), (KInt .u32), (KInt .u32), KBool, KBool, (KSl .u32)]), (KSs [.u32, .i64]), (KInt .i64), (KInt .i64), (KSl .u8)] := ⟨(KInt.keeps _), (KInt.keeps _), (KInt.keeps _), (KInt.keeps _), (KSs.keeps _), (KAll.keeps keeps49), (KSs.keeps _), (KInt.keeps _), (KInt.keeps _), (KSl.keeps _), trivial⟩
theorem rd59 (W : World) : Reads Try.prog W 59 (KAll [(KInt .i64), (KInt .u32), (KInt .u32), (KInt .i64), (KSs [.u32, .i64]), (KAll [(KInt .i64), (KSl .u32), (KInt .u32), (KInt .u32), (KInt .u32), KBool, KBool, (KSl .u32)]), (KSs [.u32, .i64]), (KInt .i64), (KInt .i64), (KSl .u8)]) := rd_struct Try.underlying59 (by kernel_rfl) ⟨(rd_int (by kernel_rfl)), (KInt.keeps _), (rd_int (by kernel_rfl)), (KInt.keeps _), (rd_int (by kernel_rfl)), (KInt.keeps _), (rd_int (by kernel_rfl)), (KInt.keeps _), (rd_ss (e := 32) (by kernel_rfl) (by kernel_rfl) (by decide) (FK.struct (ks := [[.u32], [.i64]]) Try.underlying32 (by kernel_rfl) ⟨(FK.int (by kernel_rfl)), (FK.int (by kernel_rfl)), trivial⟩)), (KSs.keeps _), (rd49 W), (KAll.keeps keeps49), (rd_ss (e := 32) (by kernel_rfl) (by kernel_rfl) (by decide) (FK.struct (ks := [[.u32], [.i64]]) Try.underlying32 (by kernel_rfl) ⟨(FK.int (by kernel_rfl)), (FK.int (by kernel_rfl)), trivial⟩)), (KSs.keeps _), (rd_int (by kernel_rfl)), (KInt.keeps _), (rd_int (by kernel_rfl)), (KInt.keeps _), (rd_sl (e := 5) (k := .u8) (by kernel_rfl) (by kernel_rfl) (by kernel_rfl)), (KSl.keeps _), trivial⟩
def In39 (M : Mem) (v : Value) : Prop := (KSl .u8) M [v]
def In59 (M : Mem) (v : Value) : Prop := ∃ acs, v = .agg ⟨acs⟩ ∧ (KAll [(KInt .i64), (KInt .u32), (KInt .u32), (KInt .i64), (KSs [.u32, .i64]), (KAll [(KInt .i64), (KSl .u32), (KInt .u32), (KInt .u32), (KInt .u32), KBool, KBool, (KSl .u32)]), (KSs [.u32, .i64]), (KInt .i64), (KInt .i64), (KSl .u8)]) M acs
def In60 (M : Mem) (v : Value) : Prop := (KInt .u16) M [v]
end Go.Proofs.Ytbdejnnbpdgjlaa.Ax

namespace Go.Proofs.Ytbdejnnbpdgjlaa.Ax
open Go Go.RowKit
open Nat renaming reduceAdd → ν1, reduceMul → ν2, reduceLeDiff → ν3, reduceLT → ν4, reduceSub → ν5
open Int renaming reduceNe → ζ1, reduceEq → ζ2, reduceLE → ζ3, reduceLT → ζ4, reduceToNat → ζ5
set_option linter.unusedVariables false
set_option linter.unusedSimpArgs false
set_option maxRecDepth 100000
set_option maxHeartbeats 20000000
attribute [local irreducible] thenA blockA scopeA retA AL AW AD ADL AH clrK CallA apure aload bload appK ptrK fnK ares szOk planOk okOps
theorem d7_Mw3 {g n : Prop} (k : n) (h : n → g := by first | exact AW.dr (id := 15) (by rfl) [0, 1, 2, 3, 4, 5, 6, 7, 8, 9, 10, 11, 12, 13, 14, 15, 16, 18, 17, 19, 20, 21, 22, 23] (by kernel_rfl) (by kernel_rfl)) : g := h k
theorem mvL_take (m : MV) (g a c nw d : Value) : List.take 17 (mvL m g a c nw d) = mvL m g a c nw d := rfl
theorem msgAgain_in (M : Mem) (v0 v1 : Value) (h0 : In39 M v0) (h1 : In39 M v1) : CallA Try.prog 7 [v0, v1] M fun r _ => r = .bool true := by
  obtain ⟨v, xs, e, hb, hx, hv⟩ := h0
  cases e
  obtain ⟨w, ys, e, hc, hy, hw⟩ := h1
  cases e
  have hb := fun x h => wf_u8 (hb x h)
  have hc := fun x h => wf_u8 (hc x h)
  (refine CallA.of_body Try.func7 rfl (by rfl) ?_; simp only [Try.ntmps7, List.length_cons, List.length_nil, List.replicate, List.cons_append, List.nil_append, Nat.reduceSub, Nat.reduceAdd])
  (repeat (first | refine st ?_ | refine σa ?_ | refine d7_Mw3 ?_ | ((first | refine σb ?_ | refine σc ?_); simp (disch := omega) only [push_cast, ↓reduceIte, reduceCtorEq, ν1, ν2, ν3, ν4, ν5, ζ1, ζ2, ζ3, ζ4, ζ5])))
  refine (alive25_spec _).mono ?_
  rintro r M1 ⟨F1, rfl⟩
  have hv1 := hv.keep F1 (by simp)
  have hw1 := hw.keep F1 (by simp)
  have sv := hv1.isSl
  have nv := hv1.lnI
  have sw := hw1.isSl
  have nw := hw1.lnI
  by_cases c1 : xs.length ≤ 6000
  rotate_left
  · have d : decide ((xs.length : Int) > 6000) = true := decide_eq_true (by omega)
    (repeat (first | refine st ?_ | refine σa ?_ | refine d7_Mw3 ?_ | ((first | refine σb ?_ | refine σc ?_); simp (disch := omega) only [push_cast, ↓reduceIte, reduceCtorEq, ν1, ν2, ν3, ν4, ν5, ζ1, ζ2, ζ3, ζ4, ζ5, sv, nv, d, Bool.not_true])))
    ((first | refine retA.ret (by rfl) ?_ | refine retA.normal (by rfl) ?_); simp (disch := omega) only [push_cast, ↓reduceIte, reduceCtorEq, Nat.reduceAdd, Nat.reduceMul, Nat.reduceLeDiff, Nat.reduceLT, Nat.reduceSub, Int.reduceNe, Int.reduceEq, Int.reduceLE, Int.reduceLT, Int.reduceToNat])
  have d1 : decide ((xs.length : Int) > 6000) = false := decide_eq_false (by omega)
  by_cases c2 : ys.length ≤ 3000
  rotate_left
  · have d : decide ((ys.length : Int) > 3000) = true := decide_eq_true (by omega)
    (repeat (first | refine st ?_ | refine σa ?_ | refine d7_Mw3 ?_ | ((first | refine σb ?_ | refine σc ?_); simp (disch := omega) only [push_cast, ↓reduceIte, reduceCtorEq, ν1, ν2, ν3, ν4, ν5, ζ1, ζ2, ζ3, ζ4, ζ5, sv, nv, sw, nw, d1, d, Bool.not_true])))
    ((first | refine retA.ret (by rfl) ?_ | refine retA.normal (by rfl) ?_); simp (disch := omega) only [push_cast, ↓reduceIte, reduceCtorEq, Nat.reduceAdd, Nat.reduceMul, Nat.reduceLeDiff, Nat.reduceLT, Nat.reduceSub, Int.reduceNe, Int.reduceEq, Int.reduceLE, Int.reduceLT, Int.reduceToNat])
  have d2 : decide ((ys.length : Int) > 3000) = false := decide_eq_false (by omega)
  (repeat (first | refine st ?_ | refine σa ?_ | refine d7_Mw3 ?_ | ((first | refine σb ?_ | refine σc ?_); simp (disch := omega) only [push_cast, ↓reduceIte, reduceCtorEq, ν1, ν2, ν3, ν4, ν5, ζ1, ζ2, ζ3, ζ4, ζ5, sv, nv, sw, nw, d1, d2, Bool.not_true])))
  obtain ⟨m, n, q1, q2, hR⟩ : ∃ m n q1 q2, readM xs = (m, n, (q1, q2)) := ⟨_, _, _, _, rfl⟩
  have hsz := readM_size (b := xs) hb (by omega)
  rw [hR] at hsz
  have hsz : sizeM m := hsz
  refine mreadK hv1 (by omega) hb hR fun M2 g a c nn d f2 in2 o2 i2 _ => ?_
  have hv2 := hv1.keep f2 (by simp)
  have hw2 := hw1.keep f2 (by simp)
  have P2 := Fr.push2 M2 (.box (mvL m g a c nn d)) (.box [.int .i64 q1, .int .i64 q2])
  have A2 := (At.push M2 (.box (mvL m g a c nn d))).keep (Fr.push _ (.box [.int .i64 q1, .int .i64 q2])) (by simp)
  have B2 := At.push (M2 ++ [.box (mvL m g a c nn d)]) (.box [.int .i64 q1, .int .i64 q2])
  rw [List.length_append, List.length_singleton] at B2
  rcases readM_cases hb with h | ⟨m', h, g1, g2, g3, g4, g5, gr, gg⟩ | ⟨⟨p1, p2⟩, h, hne, hcs, hst⟩
  · rw [hR] at h
    cases h
    have d1 : decide ((0 : Int) = 0 ∧ (0 : Int) = 0) = true := rfl
    have d2 : decide ((0 : Int) = 0) = true := rfl
    have ek : MV.zero.kind = 0 := rfl
    (repeat (first | refine st ?_ | refine σa ?_ | refine d7_Mw3 ?_ | ((first | refine σb ?_ | refine σc ?_); simp (disch := omega) only [push_cast, ↓reduceIte, reduceCtorEq, ν1, ν2, ν3, ν4, ν5, ζ1, ζ2, ζ3, ζ4, ζ5, mvL_len, mvL_ld, o2, mem2E, ek, ft_eq, aggB, d1, d2, List.drop_nil, List.append_nil, Bool.not_true, Bool.not_false, memE, boxE, boxE, buildE])))
    ((first | refine retA.ret (by rfl) ?_ | refine retA.normal (by rfl) ?_); simp (disch := omega) only [push_cast, ↓reduceIte, reduceCtorEq, Nat.reduceAdd, Nat.reduceMul, Nat.reduceLeDiff, Nat.reduceLT, Nat.reduceSub, Int.reduceNe, Int.reduceEq, Int.reduceLE, Int.reduceLT, Int.reduceToNat])
  · rw [hR] at h
    cases h
    obtain ⟨n, hn'⟩ : ∃ n, n = pairAt xs 16 := ⟨_, rfl⟩
    rw [← hn'] at g1 g2 g3 ⊢
    have dn : decide (n = 0) = false := decide_eq_false (by omega)
    have dq : decide ((0 : Int) = 0 ∧ (0 : Int) = 0) = true := rfl
    obtain ⟨bs, e, hP⟩ : ∃ bs e, putM m = (bs, e) := ⟨_, _, rfl⟩
    (repeat (first | refine st ?_ | refine σa ?_ | refine d7_Mw3 ?_ | ((first | refine σb ?_ | refine σc ?_); simp (disch := omega) only [push_cast, ↓reduceIte, reduceCtorEq, ν1, ν2, ν3, ν4, ν5, ζ1, ζ2, ζ3, ζ4, ζ5, mvL_len, mvL_ld, o2, mem2E, ft_eq, aggB, dq, dn, List.drop_nil, List.append_nil, Bool.not_true, Bool.not_false, memE, boxE, boxE, buildE])))
    have in3 := in2.keep P2 (by simp)
    generalize M2 ++ [Blk.box (mvL m g a c nn d)] ++ [Blk.box [.int .i64 0, .int .i64 0]] = M3 at *
    have hl3 : M2.length + 1 < M3.length := B2.lt
    obtain ⟨s, hs⟩ : ∃ s, s = M2.length := ⟨_, rfl⟩
    rw [← hs] at A2 B2 hl3 ⊢
    refine mputK in3 gg hsz hP fun M4 u f4 n4 => ?_
    have A4 := A2.keep f4 (by simp)
    have B4 := B2.keep f4 (by simp)
    have in4 := in3.keep f4 (by simp)
    have hor := putM_or ⟨g4, g5⟩ gr
    rw [hP] at hor
    simp only at hor
    by_cases ce : e = 0
    rotate_left
    · obtain rfl : e = 6 := by omega
      have d0 : decide ((6 : Int) = 0) = false := rfl
      have d6 : decide ((6 : Int) = 6) = true := rfl
      (repeat (first | refine st ?_ | refine σa ?_ | refine d7_Mw3 ?_ | ((first | refine σb ?_ | refine σc ?_); simp (disch := omega) only [push_cast, ↓reduceIte, reduceCtorEq, ν1, ν2, ν3, ν4, ν5, ζ1, ζ2, ζ3, ζ4, ζ5, d0, d6, Bool.not_true, Bool.not_false])))
      ((first | refine retA.ret (by rfl) ?_ | refine retA.normal (by rfl) ?_); simp (disch := omega) only [push_cast, ↓reduceIte, reduceCtorEq, Nat.reduceAdd, Nat.reduceMul, Nat.reduceLeDiff, Nat.reduceLT, Nat.reduceSub, Int.reduceNe, Int.reduceEq, Int.reduceLE, Int.reduceLT, Int.reduceToNat])
    subst ce
    have d0 : decide ((0 : Int) = 0) = true := rfl
    have hrp := readM_put (m := m) (by rw [hP]) gg []
    rw [hP, List.append_nil] at hrp
    have hbl := putM_bytes gg
    rw [hP] at hbl
    simp only at hrp hbl
    have su := n4.sl.isSl
    have nu := n4.sl.lnI
    (repeat (first | refine st ?_ | refine σa ?_ | refine d7_Mw3 ?_ | ((first | refine σb ?_ | refine σc ?_); simp (disch := omega) only [push_cast, ↓reduceIte, reduceCtorEq, ν1, ν2, ν3, ν4, ν5, ζ1, ζ2, ζ3, ζ4, ζ5, d0, Bool.not_true, Bool.not_false])))
    refine mreadK n4.sl (by omega) (putM_byteL gg hP) hrp fun M5 g' a' c' n' d' f5 in5 o5 i5 _ => ?_
    have P5 := Fr.push2 M5 (.box (mvL (ownM m) g' a' c' n' d')) (.box [.int .i64 0, .int .i64 0])
    have A5 := (A4.keep f5 (by simp)).keep P5 (by simp)
    have in5' := in5.keep P5 (by simp)
    have inm5 := (in4.keep f5 (by simp)).keep P5 (by simp)
    have C5 := (At.push M5 (.box (mvL (ownM m) g' a' c' n' d'))).keep (Fr.push _ (.box [.int .i64 0, .int .i64 0])) (by simp)
    have D5 := At.push (M5 ++ [.box (mvL (ownM m) g' a' c' n' d')]) (.box [.int .i64 0, .int .i64 0])
    rw [List.length_append, List.length_singleton] at D5
    have dle : decide (n ≤ (xs.length : Int)) = true := decide_eq_true (by omega)
    have dbs : decide ((bs.length : Int) = (bs.length : Int)) = true := decide_eq_true rfl
    (repeat (first | refine st ?_ | refine σa ?_ | refine d7_Mw3 ?_ | ((first | refine σb ?_ | refine σc ?_); simp (disch := omega) only [push_cast, ↓reduceIte, reduceCtorEq, ν1, ν2, ν3, ν4, ν5, ζ1, ζ2, ζ3, ζ4, ζ5, mvL_len, mvL_take, o5, mem2E, A5.ld, sv, nv, su, nu, dle, dbs, ft_eq, aggB, dq, List.drop_nil, List.append_nil, Bool.not_true, Bool.not_false, memE, boxE, boxE, buildE])))
    refine (mvfrom_spec (ownM m) g' a' c' n' d' _ i5).mono ?_
    rintro r M6 ⟨f6, rfl⟩
    refine ⟨f6, ?_⟩
    (repeat (first | refine st ?_ | refine σa ?_ | refine d7_Mw3 ?_ | ((first | refine σb ?_ | refine σc ?_); simp (disch := omega) only [push_cast, ↓reduceIte, reduceCtorEq, ν1, ν2, ν3, ν4, ν5, ζ1, ζ2, ζ3, ζ4, ζ5])))
    refine (mvfrom_spec m g a c nn d _ i2).mono ?_
    rintro r M7 ⟨f7, rfl⟩
    refine ⟨f7, ?_⟩
    (repeat (first | refine st ?_ | refine σa ?_ | refine d7_Mw3 ?_ | ((first | refine σb ?_ | refine σc ?_); simp (disch := omega) only [push_cast, ↓reduceIte, reduceCtorEq, ν1, ν2, ν3, ν4, ν5, ζ1, ζ2, ζ3, ζ4, ζ5])))
    refine (mvown_spec m g a c nn d _ ((inm5.keep f6 (by simp)).keep f7 (by simp))).mono ?_
    rintro r M8 ⟨f8, g2', a2, c2', n2, d2', rfl, in8⟩
    refine ⟨f8, ?_⟩
    (repeat (first | refine st ?_ | refine σa ?_ | refine d7_Mw3 ?_ | ((first | refine σb ?_ | refine σc ?_); simp (disch := omega) only [push_cast, ↓reduceIte, reduceCtorEq, ν1, ν2, ν3, ν4, ν5, ζ1, ζ2, ζ3, ζ4, ζ5])))
    obtain ⟨z1, z2, z3, z4, z5⟩ : sizeM (ownM m) := ownM_size hsz
    refine (msame_eq (ownM m) g' a' c' n' d' g2' a2 c2' n2 d2' _ (((in5'.keep f6 (by simp)).keep f7 (by simp)).keep f8 (by simp)) in8 (by omega) (by omega) (by omega) (by omega) (by omega)).mono ?_
    rintro r M9 ⟨f9, rfl⟩
    refine ⟨f9, ?_⟩
    (repeat (first | refine st ?_ | refine σa ?_ | refine d7_Mw3 ?_ | ((first | refine σb ?_ | refine σc ?_); simp (disch := omega) only [push_cast, ↓reduceIte, reduceCtorEq, ν1, ν2, ν3, ν4, ν5, ζ1, ζ2, ζ3, ζ4, ζ5])))
    ((first | refine retA.ret (by rfl) ?_ | refine retA.normal (by rfl) ?_); simp (disch := omega) only [push_cast, ↓reduceIte, reduceCtorEq, Nat.reduceAdd, Nat.reduceMul, Nat.reduceLeDiff, Nat.reduceLT, Nat.reduceSub, Int.reduceNe, Int.reduceEq, Int.reduceLE, Int.reduceLT, Int.reduceToNat])
  · rw [hR] at h
    cases h
    have hS := hst ys
    have dq : decide (q1 = 0 ∧ q2 = 0) = false := decide_eq_false (fun h => hne (by rw [h.1, h.2]))
    (repeat (first | refine st ?_ | refine σa ?_ | refine d7_Mw3 ?_ | ((first | refine σb ?_ | refine σc ?_); simp (disch := omega) only [push_cast, ↓reduceIte, reduceCtorEq, ν1, ν2, ν3, ν4, ν5, ζ1, ζ2, ζ3, ζ4, ζ5, mvL_len, mvL_ld, o2, mem2E, ft_eq, aggB, dq, List.drop_nil, List.append_nil, Bool.not_true, Bool.not_false, memE, boxE, boxE, buildE])))
    have hv3 := hv2.keep P2 (by simp)
    have hw3 := hw2.keep P2 (by simp)
    have hlen : (M2 ++ [Blk.box (mvL MV.zero g a c nn d)] ++ [Blk.box [.int .i64 q1, .int .i64 q2]]).length = M2.length + 1 + 1 := by simp
    generalize M2 ++ [Blk.box (mvL MV.zero g a c nn d)] ++ [Blk.box [.int .i64 q1, .int .i64 q2]] = M3 at *
    obtain ⟨s, hs⟩ : ∃ s, s = M2.length := ⟨_, rfl⟩
    rw [← hs] at B2 hlen ⊢
    rw [← hlen]
    refine appB0 hv3 (by omega) fun u M4 n4 f4 => ?_
    (repeat (first | refine st ?_ | refine σa ?_ | refine d7_Mw3 ?_ | ((first | refine σb ?_ | refine σc ?_); simp (disch := omega) only [push_cast, ↓reduceIte, reduceCtorEq, ν1, ν2, ν3, ν4, ν5, ζ1, ζ2, ζ3, ζ4, ζ5])))
    refine appB1 n4 f4 (hw3.keep f4 (by simp)) (by omega) fun u2 M5 n5 f5 => ?_
    (repeat (first | refine st ?_ | refine σa ?_ | refine d7_Mw3 ?_ | ((first | refine σb ?_ | refine σc ?_); simp (disch := omega) only [push_cast, ↓reduceIte, reduceCtorEq, ν1, ν2, ν3, ν4, ν5, ζ1, ζ2, ζ3, ζ4, ζ5])))
    refine mreadK n5.sl (by rw [List.length_append]; omega) (fun x hx => by rcases List.mem_append.1 hx with h | h; exact hb x h; exact hc x h) hS fun M6 g' a' c' n' d' f6 in6 o6 i6 _ => ?_
    have P6 := Fr.push2 M6 (.box (mvL MV.zero g' a' c' n' d')) (.box [.int .i64 q1, .int .i64 q2])
    have B6 := ((B2.keep f5 (by simp)).keep f6 (by simp)).keep P6 (by simp)
    have d0 : decide ((0 : Int) = 0) = true := rfl
    have dqq : decide (q1 = q1 ∧ q2 = q2) = true := decide_eq_true ⟨rfl, rfl⟩
    (repeat (first | refine st ?_ | refine σa ?_ | refine d7_Mw3 ?_ | ((first | refine σb ?_ | refine σc ?_); simp (disch := omega) only [push_cast, ↓reduceIte, reduceCtorEq, ν1, ν2, ν3, ν4, ν5, ζ1, ζ2, ζ3, ζ4, ζ5, mvL_len, o6, mem2E, B6.ld, ft_eq, aggB, d0, dqq, List.drop_nil, List.append_nil, Bool.not_true, Bool.not_false, memE, boxE, boxE, buildE])))
    ((first | refine retA.ret (by rfl) ?_ | refine retA.normal (by rfl) ?_); simp (disch := omega) only [push_cast, ↓reduceIte, reduceCtorEq, Nat.reduceAdd, Nat.reduceMul, Nat.reduceLeDiff, Nat.reduceLT, Nat.reduceSub, Int.reduceNe, Int.reduceEq, Int.reduceLE, Int.reduceLT, Int.reduceToNat])

end Go.Proofs.Ytbdejnnbpdgjlaa.Ax

namespace Go.Proofs.Ytbdejnnbpdgjlaa.Ax
open Go Go.RowKit
open Nat renaming reduceAdd → ν1, reduceMul → ν2, reduceLeDiff → ν3, reduceLT → ν4, reduceSub → ν5
open Int renaming reduceNe → ζ1, reduceEq → ζ2, reduceLE → ζ3, reduceLT → ζ4, reduceToNat → ζ5
set_option linter.unusedVariables false
set_option linter.unusedSimpArgs false
set_option maxRecDepth 100000
set_option maxHeartbeats 20000000
attribute [local irreducible] thenA blockA scopeA retA AL AW AD ADL AH clrK CallA apure aload bload appK ptrK fnK ares szOk planOk okOps
def greatM (m : MV) : Prop := m.gone.length > 2000 ∨ m.new.length > 2000 ∨ m.data.length > 6000 ∨ m.attrs.path.length > 1000 ∨ m.attrs.comms.length > 1000
theorem mvgreat_spec (m : MV) (g a c nw d : Value) (M : Mem) (h : MVin M m g a c nw d) : CallA Try.prog 23 [.agg ⟨mvL m g a c nw d⟩] M fun r M' => Fr M M' [] ∧ ∃ b, r = .bool b ∧ (b = true ↔ greatM m) := by
  have s1 := h.gone.isSl
  have s2 := h.path.isSl
  have s3 := h.comms.isSl
  have s4 := h.new.isSl
  have s5 := h.data.isSl
  have l1 := h.gone.lnX
  have l2 := h.path.lnI
  have l3 := h.comms.lnI
  have l4 := h.new.lnX
  have l5 := h.data.lnI
  have P := Fr.push M (.box (mvL m g a c nw d))
  (refine CallA.of_body Try.func23 rfl (by rfl) ?_; simp only [Try.ntmps23, List.length_cons, List.length_nil, List.replicate, List.cons_append, List.nil_append, Nat.reduceSub, Nat.reduceAdd])
  by_cases c1 : (m.gone.length : Int) > 2000
  · have d1 : decide ((m.gone.length : Int) > 2000) = true := decide_eq_true c1
    (repeat (first | refine st ?_ | refine σa ?_ | (refine σb ?_; simp (disch := omega) only [push_cast, ↓reduceIte, reduceCtorEq, ν1, ν2, ν3, ν4, ν5, ζ1, ζ2, ζ3, ζ4, ζ5, mvL_ld, s1, l1, d1, memE, boxE, buildE])))
    ((first | refine retA.ret (by rfl) ?_ | refine retA.normal (by rfl) ?_); simp (disch := omega) only [push_cast, ↓reduceIte, reduceCtorEq, Nat.reduceAdd, Nat.reduceMul, Nat.reduceLeDiff, Nat.reduceLT, Nat.reduceSub, Int.reduceNe, Int.reduceEq, Int.reduceLE, Int.reduceLT, Int.reduceToNat])
    exact ⟨P, true, rfl, iff_of_true rfl (.inl (by omega))⟩
  have d1 : decide ((m.gone.length : Int) > 2000) = false := decide_eq_false c1
  by_cases c2 : (m.new.length : Int) > 2000
  · have d2 : decide ((m.new.length : Int) > 2000) = true := decide_eq_true c2
    (repeat (first | refine st ?_ | refine σa ?_ | (refine σb ?_; simp (disch := omega) only [push_cast, ↓reduceIte, reduceCtorEq, ν1, ν2, ν3, ν4, ν5, ζ1, ζ2, ζ3, ζ4, ζ5, mvL_ld, s1, l1, d1, s4, l4, d2, memE, boxE, buildE])))
    ((first | refine retA.ret (by rfl) ?_ | refine retA.normal (by rfl) ?_); simp (disch := omega) only [push_cast, ↓reduceIte, reduceCtorEq, Nat.reduceAdd, Nat.reduceMul, Nat.reduceLeDiff, Nat.reduceLT, Nat.reduceSub, Int.reduceNe, Int.reduceEq, Int.reduceLE, Int.reduceLT, Int.reduceToNat])
    exact ⟨P, true, rfl, iff_of_true rfl (.inr (.inl (by omega)))⟩
  have d2 : decide ((m.new.length : Int) > 2000) = false := decide_eq_false c2
  by_cases c3 : (m.data.length : Int) > 6000
  · have d3 : decide ((m.data.length : Int) > 6000) = true := decide_eq_true c3
    (repeat (first | refine st ?_ | refine σa ?_ | (refine σb ?_; simp (disch := omega) only [push_cast, ↓reduceIte, reduceCtorEq, ν1, ν2, ν3, ν4, ν5, ζ1, ζ2, ζ3, ζ4, ζ5, mvL_ld, s1, l1, d1, s4, l4, d2, s5, l5, d3, memE, boxE, buildE])))
    ((first | refine retA.ret (by rfl) ?_ | refine retA.normal (by rfl) ?_); simp (disch := omega) only [push_cast, ↓reduceIte, reduceCtorEq, Nat.reduceAdd, Nat.reduceMul, Nat.reduceLeDiff, Nat.reduceLT, Nat.reduceSub, Int.reduceNe, Int.reduceEq, Int.reduceLE, Int.reduceLT, Int.reduceToNat])
    exact ⟨P, true, rfl, iff_of_true rfl (.inr (.inr (.inl (by omega))))⟩
  have d3 : decide ((m.data.length : Int) > 6000) = false := decide_eq_false c3
  by_cases c4 : (m.attrs.path.length : Int) > 1000
  · have d4 : decide ((m.attrs.path.length : Int) > 1000) = true := decide_eq_true c4
    (repeat (first | refine st ?_ | refine σa ?_ | (refine σb ?_; simp (disch := omega) only [push_cast, ↓reduceIte, reduceCtorEq, ν1, ν2, ν3, ν4, ν5, ζ1, ζ2, ζ3, ζ4, ζ5, mvL_ld, s1, l1, d1, s4, l4, d2, s5, l5, d3, s2, l2, d4, memE, boxE, buildE])))
    ((first | refine retA.ret (by rfl) ?_ | refine retA.normal (by rfl) ?_); simp (disch := omega) only [push_cast, ↓reduceIte, reduceCtorEq, Nat.reduceAdd, Nat.reduceMul, Nat.reduceLeDiff, Nat.reduceLT, Nat.reduceSub, Int.reduceNe, Int.reduceEq, Int.reduceLE, Int.reduceLT, Int.reduceToNat])
    exact ⟨P, true, rfl, iff_of_true rfl (.inr (.inr (.inr (.inl (by omega)))))⟩
  have d4 : decide ((m.attrs.path.length : Int) > 1000) = false := decide_eq_false c4
  by_cases c5 : (m.attrs.comms.length : Int) > 1000
  · have d5 : decide ((m.attrs.comms.length : Int) > 1000) = true := decide_eq_true c5
    (repeat (first | refine st ?_ | refine σa ?_ | (refine σb ?_; simp (disch := omega) only [push_cast, ↓reduceIte, reduceCtorEq, ν1, ν2, ν3, ν4, ν5, ζ1, ζ2, ζ3, ζ4, ζ5, mvL_ld, s1, l1, d1, s4, l4, d2, s5, l5, d3, s2, l2, d4, s3, l3, d5, memE, boxE, buildE])))
    ((first | refine retA.ret (by rfl) ?_ | refine retA.normal (by rfl) ?_); simp (disch := omega) only [push_cast, ↓reduceIte, reduceCtorEq, Nat.reduceAdd, Nat.reduceMul, Nat.reduceLeDiff, Nat.reduceLT, Nat.reduceSub, Int.reduceNe, Int.reduceEq, Int.reduceLE, Int.reduceLT, Int.reduceToNat])
    exact ⟨P, true, rfl, iff_of_true rfl (.inr (.inr (.inr (.inr (by omega)))))⟩
  have d5 : decide ((m.attrs.comms.length : Int) > 1000) = false := decide_eq_false c5
  (repeat (first | refine st ?_ | refine σa ?_ | (refine σb ?_; simp (disch := omega) only [push_cast, ↓reduceIte, reduceCtorEq, ν1, ν2, ν3, ν4, ν5, ζ1, ζ2, ζ3, ζ4, ζ5, mvL_ld, s1, l1, d1, s4, l4, d2, s5, l5, d3, s2, l2, d4, s3, l3, d5, memE, boxE, buildE])))
  ((first | refine retA.ret (by rfl) ?_ | refine retA.normal (by rfl) ?_); simp (disch := omega) only [push_cast, ↓reduceIte, reduceCtorEq, Nat.reduceAdd, Nat.reduceMul, Nat.reduceLeDiff, Nat.reduceLT, Nat.reduceSub, Int.reduceNe, Int.reduceEq, Int.reduceLE, Int.reduceLT, Int.reduceToNat])
  refine ⟨P, false, rfl, iff_of_false (by simp) ?_⟩
  rintro (h | h | h | h | h) <;> omega
def toPX (l : List Int) : PX := (l.headD 0, l.tail.headD 0)
theorem zip_pxs (xs : List (List Int)) : xs.flatMap (zipI [.u32, .i64]) = pxs (xs.map toPX) := by
  induction xs with
  | nil => rfl
  | cons x xs ih => rw [List.flatMap_cons, ih, List.map_cons]; rfl
theorem zip_good {xs : List (List Int)} (h : ∀ x ∈ xs, goodI [.u32, .i64] x) : ∀ p ∈ xs.map toPX, goodX p := by
  intro p hp
  obtain ⟨x, hx, rfl⟩ := List.mem_map.1 hp
  obtain ⟨h1, _, _⟩ := h x hx
  exact wf_u32 h1
theorem raw_in {M : Mem} {v : Value} (h : In59 M v) : ∃ m g a c nw d, v = .agg ⟨mvL m g a c nw d⟩ ∧ MVin M m g a c nw d ∧ goodM m := by
  obtain ⟨acs, rfl, _, _, rfl, ⟨kind, hk, rfl⟩, _, _, rfl, ⟨asn, has, rfl⟩, _, _, rfl, ⟨id, hid, rfl⟩, _, _, rfl, ⟨hold, hho, rfl⟩, _, _, rfl, ⟨g, gs, rfl, hg, _, sg⟩, _, _, rfl,
    ⟨_, _, rfl, ⟨org, hor, rfl⟩, _, _, rfl, ⟨p, ps, rfl, hp, _, sp⟩, _, _, rfl, ⟨hop, hhop, rfl⟩, _, _, rfl, ⟨med, hmed, rfl⟩, _, _, rfl, ⟨pref, hpref, rfl⟩, _, _, rfl, ⟨hm, rfl⟩, _, _, rfl, ⟨hp', rfl⟩, _, _, rfl, ⟨c, cs, rfl, hc, _, sc⟩, rfl⟩,
    _, _, rfl, ⟨n, ns, rfl, hn, _, sn⟩, _, _, rfl, ⟨code, hcode, rfl⟩, _, _, rfl, ⟨sub, hsub, rfl⟩, _, _, rfl, ⟨d, ds, rfl, hd, _, sd⟩, rfl⟩ := h
  rw [zip_pxs] at sg sn
  exact ⟨⟨kind, asn, id, hold, gs.map toPX, ⟨org, ps, hop, med, pref, hm, hp', cs⟩, ns.map toPX, code, sub, ds⟩, g, p, c, n, d, rfl, ⟨sg, sp, sc, sn, sd⟩, wf_u32 has, wf_u32 hid, zip_good hg, zip_good hn, ⟨fun x h => wf_u32 (hp x h), wf_u32 hhop, wf_u32 hmed, wf_u32 hpref, fun x h => wf_u32 (hc x h)⟩, fun x h => wf_u8 (hd x h)⟩

end Go.Proofs.Ytbdejnnbpdgjlaa.Ax
