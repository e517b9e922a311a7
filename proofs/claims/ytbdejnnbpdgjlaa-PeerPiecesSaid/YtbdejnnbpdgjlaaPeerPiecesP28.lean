/- Contracts of functions over the abstract machine. No conditions: lemmas alone. -/
import Derived.Test.YtbdejnnbpdgjlaaPeerPiecesLibD
import Derived.Test.YtbdejnnbpdgjlaaPeerPiecesP0
import Derived.Test.YtbdejnnbpdgjlaaPeerPiecesP27
import Derived.Test.YtbdejnnbpdgjlaaPeerPiecesP26
namespace Go.Proofs.Ytbdejnnbpdgjlaa.Ax
open Go Go.RowKit
set_option linter.unusedVariables false
set_option linter.unusedSimpArgs false
set_option maxRecDepth 100000
set_option maxHeartbeats 20000000
def KInt (k : IntKind) (M : Mem) (acs : List Value) : Prop := ∃ n, (Lit.int k n).wf = true ∧ acs = [.int k n]
def KBool (M : Mem) (acs : List Value) : Prop := ∃ b, acs = [.bool b]
def KSl (k : IntKind) (M : Mem) (acs : List Value) : Prop := ∃ v xs, acs = [v] ∧ (∀ x ∈ xs, (Lit.int k x).wf = true) ∧ xs.length ≤ maxLen ∧ Sl M v 1 (ints k xs)
def Keeps (K : Mem → List Value → Prop) : Prop := ∀ M Y acs, K M acs → K (M ++ Y) acs
def KAll : List (Mem → List Value → Prop) → Mem → List Value → Prop
 | [], _, acs => acs = []
 | K :: Ks, M, acs => ∃ a b, acs = a ++ b ∧ K M a ∧ KAll Ks M b
theorem KInt.keeps (k : IntKind) : Keeps (KInt k) := fun _ _ _ h => h
theorem KBool.keeps : Keeps KBool := fun _ _ _ h => h
theorem KSl.keeps (k : IntKind) : Keeps (KSl k) := fun M Y acs ⟨v, xs, h1, h2, h3, h4⟩ => ⟨v, xs, h1, h2, h3, h4.app Y⟩
def KeepsAll : List (Mem → List Value → Prop) → Prop
 | [] => True
 | K :: Ks => Keeps K ∧ KeepsAll Ks
theorem KAll.keeps : ∀ {Ks : List (Mem → List Value → Prop)}, KeepsAll Ks → Keeps (KAll Ks)
 | [], _ => fun _ _ _ h => h
 | K :: Ks, ⟨h1, h2⟩ => fun M Y acs ⟨a, b, e, k1, k2⟩ => ⟨a, b, e, h1 M Y a k1, KAll.keeps h2 M Y b k2⟩
section
variable {P : Program} {W : World} {t e : TypeId}
theorem rd_int {k : IntKind} (ht : P.underlying t = some (.int k)) : Reads P W t (KInt k) := by
 intro H en base held n cs x hx ι N0 M hN hm
 obtain ⟨ι', X, acs, h1, h2, h3, y, h4, h5⟩ := (flat_int (W := W) ht).reads (fun y => by rfl) H en base held n cs x hx ι N0 M hN hm
 exact ⟨ι', X, acs, h1, h2, h3, y, h4, h5⟩
theorem flatMap_ints (k : IntKind) (xs : List Int) : xs.flatMap (fun n => [Value.int k n]) = ints k xs := by
 induction xs with
 | nil => rfl
 | cons x xs ih => rw [List.flatMap_cons, ih]; rfl
theorem rd_sl {k : IntKind} (ht : P.underlying t = some (.slice e)) (he : P.cellsOf e = 1) (hu : P.underlying e = some (.int k)) : Reads P W t (KSl k) := by
 intro H en base held n cs x hx ι N0 M hN hm
 obtain ⟨ι', X, acs, h1, h2, h3, v, xs, h4, h5, h6, h7⟩ := reads_slice ht he (by omega) (flat_int (W := W) hu) (fun y => by rfl) (fun y => by rfl) (fun y => by rfl) H en base held n cs x hx ι N0 M hN hm
 rw [flatMap_ints] at h7
 exact ⟨ι', X, acs, h1, h2, h3, v, xs, h4, h5, h6, h7⟩
theorem wf_u8 {x : Int} (h : (Lit.int .u8 x).wf = true) : 0 ≤ x ∧ x ≤ 255 := by simp [Lit.wf, IntKind.min, IntKind.max, IntKind.signed, IntKind.bits] at h; omega
theorem wf_u16 {x : Int} (h : (Lit.int .u16 x).wf = true) : 0 ≤ x ∧ x ≤ 65535 := by simp [Lit.wf, IntKind.min, IntKind.max, IntKind.signed, IntKind.bits] at h; omega
theorem wf_u32 {x : Int} (h : (Lit.int .u32 x).wf = true) : 0 ≤ x ∧ x ≤ 4294967295 := by simp [Lit.wf, IntKind.min, IntKind.max, IntKind.signed, IntKind.bits] at h; omega
theorem wf_i64 {x : Int} (h : (Lit.int .i64 x).wf = true) : -9223372036854775808 ≤ x ∧ x ≤ 9223372036854775807 := by simp [Lit.wf, IntKind.min, IntKind.max, IntKind.signed, IntKind.bits] at h; omega
def RAll (P : Program) (W : World) : List Field → List (Mem → List Value → Prop) → Prop
 | [], [] => True
 | f :: l, K :: Ks => Reads P W f.type K ∧ Keeps K ∧ RAll P W l Ks
 | _, _ => False
def offsB (P : Program) : Nat → List Field → Nat → Bool
 | o, [], n => o == n
 | o, f :: l, n => f.offset == o && offsB P (o + P.cellsOf f.type) l n
theorem rd_fields {H : Type} {en : TypeId × Value → H} {base : Nat} {held : Bool} {m : Nat} {cs : List Value} : ∀ (l : List Field) (Ks : List (Mem → List Value → Prop)) (o : Nat), RAll P W l Ks → offsB P o l cs.length = true →
  (∀ f ∈ l, ∃ x, DataW.trod en P W base (fun _ => true) held m f.type ((cs.drop f.offset).take (P.cellsOf f.type)) = some x) →
  ∀ ι (N0 : Base) M, N0.n = W.heap.size → MRel ι N0 M W → ∃ ι' X acs, (∀ b l, ι b = some l → ι' b = some l) ∧ MRel ι' N0 (M ++ X) W ∧ LRel ι' acs (cs.drop o) ∧ KAll Ks (M ++ X) acs ∧ KeepsAll Ks
 | [], [], o, _, ho, _, ι, N0, M, hN, hm => by
  have ho' : o = cs.length := by simpa [offsB] using ho
  exact ⟨ι, [], [], fun _ _ h => h, by simpa using hm, by rw [ho', List.drop_length]; exact .nil, rfl, trivial⟩
 | f :: l, K :: Ks, o, ⟨h1, h2, h3⟩, ho, hx, ι, N0, M, hN, hm => by
  simp only [offsB, Bool.and_eq_true, beq_iff_eq] at ho
  obtain ⟨x, hx0⟩ := hx f (by simp)
  obtain ⟨ι1, X1, a1, i1, m1, r1, k1⟩ := h1 H en base held m _ x hx0 ι N0 M hN hm
  obtain ⟨ι2, X2, a2, i2, m2, r2, k2, kk⟩ := rd_fields l Ks _ h3 ho.2 (fun g hg => hx g (List.mem_cons_of_mem _ hg)) ι1 N0 (M ++ X1) hN m1
  refine ⟨ι2, X1 ++ X2, a1 ++ a2, fun b l h => i2 b l (i1 b l h), by rw [← List.append_assoc]; exact m2, ?_, ⟨a1, a2, rfl, ?_, ?_⟩, h2, kk⟩
  ·rw [show cs.drop o = (cs.drop f.offset).take (P.cellsOf f.type) ++ cs.drop (o + P.cellsOf f.type) by rw [ho.1, ← List.drop_drop, List.take_append_drop]]
   exact (r1.mono i2).append r2
  ·rw [← List.append_assoc]; exact h2 _ _ _ k1
  ·rw [← List.append_assoc]; exact k2
 | [], _ :: _, _, h, _, _, _, _, _, _, _ => h.elim
 | _ :: _, [], _, h, _, _, _, _, _, _, _ => h.elim
theorem rd_struct {fs : Array Field} {Ks : List (Mem → List Value → Prop)} (ht : P.underlying t = some (.struct fs)) (hs : offsB P 0 fs.toList (P.cellsOf t) = true) (hr : RAll P W fs.toList Ks) : Reads P W t (KAll Ks) := by
 intro H en base held n cs x hx ι N0 M hN hm
 obtain ⟨xs, m, _, _, hlen, hxl, hf⟩ := DataW.trod_struct ht hx
 obtain ⟨ι', X, acs, h1, h2, h3, h4, _⟩ := rd_fields (en := en) (base := base) (held := held) (m := m) (cs := cs) fs.toList Ks 0 hr (by rw [hlen]; exact hs) (fun f hf' => by
  obtain ⟨i, hi, e⟩ := List.mem_iff_getElem.1 hf'
  have hg : fs[i]? = some f := by rw [← Array.getElem?_toList, List.getElem?_eq_getElem hi, e]
  have hi' : i < xs.length := by rw [hxl]; simpa using hi
  exact ⟨xs[i], by rw [hf i f hg, List.getElem?_eq_getElem hi']⟩) ι N0 M hN hm
 exact ⟨ι', X, acs, h1, h2, by simpa using h3, h4⟩
end
def zipI : List IntKind → List Int → List Value
 | [], _ => []
 | k :: ks, ns => .int k (ns.headD 0) :: zipI ks ns.tail
def goodI : List IntKind → List Int → Prop
 | [], ns => ns = []
 | k :: ks, ns => (Lit.int k (ns.headD 0)).wf = true ∧ ns ≠ [] ∧ goodI ks ns.tail
theorem zipI_append : ∀ (ks ls : List IntKind) (ns ms : List Int), goodI ks ns → zipI (ks ++ ls) (ns ++ ms) = zipI ks ns ++ zipI ls ms
 | [], ls, ns, ms, h => by cases h; rfl
 | k :: ks, ls, ns, ms, ⟨_, hne, h⟩ => by
  cases ns with
  | nil => exact absurd rfl hne
  | cons n ns => simp only [List.cons_append, zipI, List.headD_cons, List.tail_cons, zipI_append ks ls ns ms h]
theorem goodI_append : ∀ {ks ls : List IntKind} {ns ms : List Int}, goodI ks ns → goodI ls ms → goodI (ks ++ ls) (ns ++ ms)
 | [], ls, ns, ms, h, h' => by cases h; exact h'
 | k :: ks, ls, ns, ms, ⟨hw, hne, h⟩, h' => by
  cases ns with
  | nil => exact absurd rfl hne
  | cons n ns => exact ⟨hw, by simp, goodI_append h h'⟩
def FK (P : Program) (W : World) (t : TypeId) (ks : List IntKind) : Prop := FlatR P W t (zipI ks) (goodI ks)
section
variable {P : Program} {W : World} {t e : TypeId}
theorem FK.int {k : IntKind} (ht : P.underlying t = some (.int k)) : FK P W t [k] := by
 intro H en base spare held n cs x h
 obtain ⟨m, rfl, _, hw⟩ := DataW.trod_int ht h
 exact ⟨[m], ⟨hw, by simp, rfl⟩, rfl⟩
def FKs (P : Program) (W : World) : List Field → List (List IntKind) → Prop
 | [], [] => True
 | f :: l, k :: ks => FK P W f.type k ∧ FKs P W l ks
 | _, _ => False
theorem fk_fields {H : Type} {en : TypeId × Value → H} {base : Nat} {spare : Nat → Bool} {held : Bool} {m : Nat} {cs : List Value} : ∀ (l : List Field) (ks : List (List IntKind)) (o : Nat), FKs P W l ks → offsB P o l cs.length = true →
  (∀ f ∈ l, ∃ x, DataW.trod en P W base spare held m f.type ((cs.drop f.offset).take (P.cellsOf f.type)) = some x) →
  ∃ ns, goodI ks.flatten ns ∧ cs.drop o = zipI ks.flatten ns
 | [], [], o, _, ho, _ => by
  have ho' : o = cs.length := by simpa [offsB] using ho
  exact ⟨[], rfl, by rw [ho', List.drop_length]; rfl⟩
 | f :: l, k :: ks, o, ⟨h1, h3⟩, ho, hx => by
  simp only [offsB, Bool.and_eq_true, beq_iff_eq] at ho
  obtain ⟨x, hx0⟩ := hx f (by simp)
  obtain ⟨n1, g1, e1⟩ := h1 H en base spare held m _ x hx0
  obtain ⟨n2, g2, e2⟩ := fk_fields l ks _ h3 ho.2 (fun g hg => hx g (List.mem_cons_of_mem _ hg))
  refine ⟨n1 ++ n2, by rw [List.flatten_cons]; exact goodI_append g1 g2, ?_⟩
  rw [List.flatten_cons, zipI_append _ _ _ _ g1, ← e1, ← e2, ho.1, ← List.drop_drop, List.take_append_drop]
 | [], _ :: _, _, h, _, _ => h.elim
 | _ :: _, [], _, h, _, _ => h.elim
theorem FK.struct {fs : Array Field} {ks : List (List IntKind)} (ht : P.underlying t = some (.struct fs)) (hs : offsB P 0 fs.toList (P.cellsOf t) = true) (hr : FKs P W fs.toList ks) : FK P W t ks.flatten := by
 intro H en base spare held n cs x hx
 obtain ⟨xs, m, _, _, hlen, hxl, hf⟩ := DataW.trod_struct ht hx
 obtain ⟨ns, h1, h2⟩ := fk_fields (en := en) (base := base) (spare := spare) (held := held) (m := m) (cs := cs) fs.toList ks 0 hr (by rw [hlen]; exact hs) (fun f hf' => by
  obtain ⟨i, hi, e⟩ := List.mem_iff_getElem.1 hf'
  have hg : fs[i]? = some f := by rw [← Array.getElem?_toList, List.getElem?_eq_getElem hi, e]
  have hi' : i < xs.length := by rw [hxl]; simpa using hi
  exact ⟨xs[i], by rw [hf i f hg, List.getElem?_eq_getElem hi']⟩)
 exact ⟨ns, h1, by simpa using h2⟩
def KSs (ks : List IntKind) (M : Mem) (acs : List Value) : Prop := ∃ (v : Value) (xs : List (List Int)), acs = [v] ∧ (∀ x ∈ xs, goodI ks x) ∧ xs.length ≤ maxLen ∧ Sl M v ks.length (xs.flatMap (zipI ks))
theorem KSs.keeps (ks : List IntKind) : Keeps (KSs ks) := fun M Y acs ⟨v, xs, h1, h2, h3, h4⟩ => ⟨v, xs, h1, h2, h3, h4.app Y⟩
end
def Cells (K : Mem → List Value → Prop) (sz : Nat) : Prop := ∀ M acs, K M acs → acs.all Value.oneCell' = true ∧ acs.length = sz
theorem KInt.cells (k : IntKind) : Cells (KInt k) 1 := fun M acs ⟨n, _, e⟩ => by subst e; exact ⟨rfl, rfl⟩
theorem KBool.cells : Cells KBool 1 := fun M acs ⟨n, e⟩ => by subst e; exact ⟨rfl, rfl⟩
theorem sl_cells {v : Value} (h : isSl v = true) : [v].all Value.oneCell' = true := by
 have := isSl_one h
 simp only [List.all_cons, List.all_nil, Bool.and_true]
 exact this
theorem KSl.cells (k : IntKind) : Cells (KSl k) 1 := fun M acs ⟨v, xs, e, _, _, h⟩ => by subst e; exact ⟨sl_cells h.isSl, rfl⟩
theorem KEl.cells (K : Mem → List Value → Prop) (sz : Nat) : Cells (KEl K sz) 1 := fun M acs ⟨v, L, e, _, _, h⟩ => by subst e; exact ⟨sl_cells h.isSl, rfl⟩
theorem KEl.keeps {K : Mem → List Value → Prop} {sz : Nat} (hk : Keeps K) : Keeps (KEl K sz) := fun M Y acs ⟨v, L, e, h1, h2, h3⟩ => ⟨v, L, e, fun c hc => hk _ _ _ (h1 c hc), h2, h3.app Y⟩
end Go.Proofs.Ytbdejnnbpdgjlaa.Ax
namespace Go.Proofs.Ytbdejnnbpdgjlaa.Ax
open Go Go.RowKit
set_option linter.unusedVariables false
set_option linter.unusedSimpArgs false
set_option maxRecDepth 100000
theorem keeps70 : KeepsAll [(KInt .u32), (KInt .u32), (KInt .i64), (KInt .u32)] := ⟨(KInt.keeps _), (KInt.keeps _), (KInt.keeps _), (KInt.keeps _), trivial⟩
theorem rd70 (W : World) : Reads Try.prog W 70 (KAll [(KInt .u32), (KInt .u32), (KInt .i64), (KInt .u32)]) := rd_struct Try.underlying70 (by kernel_rfl) ⟨(rd_int (by kernel_rfl)), (KInt.keeps _), (rd_int (by kernel_rfl)), (KInt.keeps _), (rd_int (by kernel_rfl)), (KInt.keeps _), (rd_int (by kernel_rfl)), (KInt.keeps _), trivial⟩
theorem keeps72 : KeepsAll [(KAll [(KInt .u32), (KInt .u32), (KInt .i64), (KInt .u32)]), (KInt .i64), (KSl .u8), (KInt .i64), (KInt .i64), (KInt .i64), (KInt .u32)] := ⟨(KAll.keeps keeps70), (KInt.keeps _), (KSl.keeps _), (KInt.keeps _), (KInt.keeps _), (KInt.keeps _), (KInt.keeps _), trivial⟩
theorem rd72 (W : World) : Reads Try.prog W 72 (KAll [(KAll [(KInt .u32), (KInt .u32), (KInt .i64), (KInt .u32)]), (KInt .i64), (KSl .u8), (KInt .i64), (KInt .i64), (KInt .i64), (KInt .u32)]) := rd_struct Try.underlying72 (by kernel_rfl) ⟨(rd70 W), (KAll.keeps keeps70), (rd_int (by kernel_rfl)), (KInt.keeps _), (rd_sl (e := 5) (k := .u8) (by kernel_rfl) (by kernel_rfl) (by kernel_rfl)), (KSl.keeps _), (rd_int (by kernel_rfl)), (KInt.keeps _), (rd_int (by kernel_rfl)), (KInt.keeps _), (rd_int (by kernel_rfl)), (KInt.keeps _), (rd_int (by kernel_rfl)), (KInt.keeps _), trivial⟩
def In39 (M : Mem) (v : Value) : Prop := (KSl .u8) M [v]
def In60 (M : Mem) (v : Value) : Prop := (KInt .u16) M [v]
def In72 (M : Mem) (v : Value) : Prop := ∃ acs, v = .agg ⟨acs⟩ ∧ (KAll [(KAll [(KInt .u32), (KInt .u32), (KInt .i64), (KInt .u32)]), (KInt .i64), (KSl .u8), (KInt .i64), (KInt .i64), (KInt .i64), (KInt .u32)]) M acs
end Go.Proofs.Ytbdejnnbpdgjlaa.Ax
namespace Go.Proofs.Ytbdejnnbpdgjlaa.Ax
open Go Go.RowKit
set_option linter.unusedVariables false
set_option linter.unusedSimpArgs false
set_option maxRecDepth 100000
set_option maxHeartbeats 20000000
section
variable {P : Program} {ops : Array Oper} {todo done : List Nat} {Ls : List (Nat × LP)} {rest : List Oper} {K : List Value → Mem → Prop} {t : List Value} {M : Mem}
variable {i : Nat} {dst : Option Tmp} {type : TypeId} {pos : String} {after : Array Edge}
theorem AH.guSl {ty : TypeId} {x : Operand} {lo hi mx : Option Operand} {j : Nat} {want b : Bool} (ht : isSlT P ty = true) (hy : yieldA ops t j = some b) (hb : b = want) (hok : okOpds ⟨dst, .slice ty x lo hi mx, type, pos, after, none⟩ = true)
  (h : ∃ e s v, P.underlying ty = some (.slice e) ∧ tsz P e = some s ∧ szOk M (ev t x) s ∧ (∀ b ∈ blkOf (ev t x), b < M.length) ∧ aslice (ev t x) s (lo.map (ev t)) (hi.map (ev t)) (mx.map (ev t)) = some v ∧ ADL P ops todo (i :: done) (Ls ++ [(i, LP.size (ev t x) s)]) K (putT t dst v) M) : AH P ops dst (.slice ty x lo hi mx) type pos after (some (j, want)) i todo done Ls K t M := fun ho => by
 obtain ⟨e, s, v, hu, hs, hz, hbk, hv, hc⟩ := h
 have hla : LoadA P (⟨dst, .slice ty x lo hi mx, type, pos, after, some (j, want)⟩ : Oper) (ev t) (LP.size (ev t x) s).holds v := fun ι N0 ρ' M w hm hL hr => load_slice rfl hu hs hv ι N0 ρ' M w hm hL.1 hr
 exact ADL.lp (LP.size (ev t x) s) ho rfl hok (by simp [wantA, hy, hb]) hla ⟨hz, hbk⟩ hc
end
end Go.Proofs.Ytbdejnnbpdgjlaa.Ax
namespace Go.Proofs.Ytbdejnnbpdgjlaa.Ax
open Go Go.RowKit
open Nat renaming reduceAdd → ν1, reduceMul → ν2, reduceLeDiff → ν3, reduceLT → ν4, reduceSub → ν5
open Int renaming reduceNe → ζ1, reduceEq → ζ2, reduceLE → ζ3, reduceLT → ζ4, reduceToNat → ζ5
set_option linter.unusedVariables false
set_option linter.unusedSimpArgs false
set_option maxRecDepth 100000
set_option maxHeartbeats 20000000
attribute [local irreducible] thenA blockA scopeA retA AL AW AD ADL AH clrK CallA apure aload bload appK ptrK fnK ares szOk planOk okOps
theorem d9_Pee {g n : Prop} (k : n) (h : n → g := by first | exact AW.dr (id := 7) (by rfl) [0, 2, 3, 4, 10, 1, 5, 6, 7, 8, 9, 11, 12, 13] (by kernel_rfl) (by kernel_rfl) | exact AW.dr (id := 8) (by rfl) [0, 1, 2, 3, 9, 4, 5, 6, 7, 8, 10, 11, 12] (by kernel_rfl) (by kernel_rfl) | exact AW.dr (id := 9) (by rfl) [0, 2, 1, 3, 4, 5, 6, 7, 8, 10, 9, 11, 12, 13, 14, 15, 17, 19, 16, 18, 20, 21, 22, 23, 24] (by kernel_rfl) (by kernel_rfl)) : g := h k
theorem a9_Pee {g n : Prop} (k : n) (h : n → g := by first | exact AH.guApN (i := 9) rfl (by first | rfl | assumption) rfl rfl (by kernel_rfl) | exact AH.guApN (i := 11) rfl (by first | rfl | assumption) rfl rfl (by kernel_rfl) | exact AH.guApN (i := 21) rfl (by first | rfl | assumption) rfl rfl (by kernel_rfl) | exact AH.guLt rfl (by first | rfl | assumption) rfl | exact AH.guSl (by kernel_rfl) rfl (by first | rfl | assumption) rfl | exact AH.ca (dst := some 38) rfl | exact AH.caN (dst := some 42) rfl (by kernel_rfl) | exact AH.caN (dst := some 51) rfl (by kernel_rfl) | exact AH.ca (dst := some 56) rfl | exact AH.caN (dst := some 58) rfl (by kernel_rfl) | exact AH.caN (dst := some 59) rfl (by kernel_rfl)) : g := h k
theorem peer_in {M : Mem} {v : Value} (h : In72 M v) : ∃ q vb, v = .agg ⟨pvL q vb⟩ ∧ Sl M vb 1 (ints .u8 q.buf) ∧ bytesL q.buf ∧ u32 q.conf.asn ∧ u32 q.conf.id ∧ (-9223372036854775808 ≤ q.hold ∧ q.hold ≤ 9223372036854775807) := by
 obtain ⟨acs, rfl, _, _, rfl, ⟨_, _, rfl, ⟨asn, has, rfl⟩, _, _, rfl, ⟨id, hid, rfl⟩, _, _, rfl, ⟨hold, hho, rfl⟩, _, _, rfl, ⟨pe, hpe, rfl⟩, rfl⟩, _, _, rfl, ⟨st, hst, rfl⟩, _, _, rfl, ⟨v, xs, rfl, hb, hl, sl⟩, _, _, rfl, ⟨ho, hh, rfl⟩, _, _, rfl, ⟨he, hhe, rfl⟩, _, _, rfl, ⟨sa, hsa, rfl⟩, _, _, rfl, ⟨i2, hi2, rfl⟩, rfl⟩ := h
 exact ⟨⟨⟨asn, id, hold, pe⟩, st, xs, ho, he, sa, i2⟩, v, rfl, sl, fun x h => wf_u8 (hb x h), wf_u32 has, wf_u32 hid, wf_i64 hh⟩
theorem peerPieces_in (M : Mem) (v0 v1 v2 : Value) (h0 : In72 M v0) (h1 : In39 M v1) (h2 : In60 M v2) : CallA Try.prog 9 [v0, v1, v2] M fun r _ => r = .bool true := by
 obtain ⟨q, vb, rfl, hv, hb1, -, -, -⟩ := peer_in h0
 obtain ⟨vx, bs, e, hb2, -, hx⟩ := h1
 cases e
 obtain ⟨cut, hc, e⟩ := h2
 cases e
 obtain ⟨hc0, hc1⟩ := wf_u16 hc
 have hb2 : bytesL bs := fun x h => wf_u8 (hb2 x h)
 have P0 := Fr.push M (.box (pvL q vb))
 have A0 := At.push M (.box (pvL q vb))
 (refine CallA.of_body Try.func9 rfl (by rfl) ?_; simp only [Try.ntmps9, List.length_cons, List.length_nil, List.replicate, List.cons_append, List.nil_append, Nat.reduceSub, Nat.reduceAdd])
 (repeat (first | refine st ?_ | refine σa ?_ | refine d9_Pee ?_ | ((first | refine a9_Pee ?_ | refine σb ?_ | refine σc ?_); simp (disch := omega) only [push_cast, ↓reduceIte, reduceCtorEq, ν1, ν2, ν3, ν4, ν5, ζ1, ζ2, ζ3, ζ4, ζ5, lsE])))
 obtain ⟨s, hs⟩ : ∃ s, s = M.length := ⟨_, rfl⟩
 rw [← hs] at A0 ⊢
 show CallA _ _ _ (M ++ [.box (pvL q vb)]) _
 generalize M ++ [Blk.box (pvL q vb)] = M0 at *
 refine (alive27_spec _).mono ?_
 rintro r M1 ⟨F1, rfl⟩
 have A1 := A0.keep F1 (by simp)
 have hv1 := (hv.keep P0 (by simp)).keep F1 (by simp)
 have hx1 := (hx.keep P0 (by simp)).keep F1 (by simp)
 (repeat (first | refine st ?_ | refine σa ?_ | refine d9_Pee ?_ | ((first | refine a9_Pee ?_ | refine σb ?_ | refine σc ?_); simp (disch := omega) only [push_cast, ↓reduceIte, reduceCtorEq, ν1, ν2, ν3, ν4, ν5, ζ1, ζ2, ζ3, ζ4, ζ5, A1.ld, pvL_ld, Bool.not_true, buildE, lsE])))
 refine (pgreat_spec q vb v1 bs M1 hv1 hx1).mono ?_
 rintro r M2 ⟨F2, rfl⟩
 by_cases cg : greatP q bs
 ·rw [decide_eq_true cg]
  (repeat (first | refine st ?_ | refine σa ?_ | refine d9_Pee ?_ | ((first | refine a9_Pee ?_ | refine σb ?_ | refine σc ?_); simp (disch := omega) only [push_cast, ↓reduceIte, reduceCtorEq, ν1, ν2, ν3, ν4, ν5, ζ1, ζ2, ζ3, ζ4, ζ5, lsE])))
  ((first | refine retA.ret (by rfl) ?_ | refine retA.normal (by rfl) ?_); simp (disch := omega) only [push_cast, ↓reduceIte, reduceCtorEq, Nat.reduceAdd, Nat.reduceMul, Nat.reduceLeDiff, Nat.reduceLT, Nat.reduceSub, Int.reduceNe, Int.reduceEq, Int.reduceLE, Int.reduceLT, Int.reduceToNat])
 rw [decide_eq_false cg]
 have hq6 : q.buf.length ≤ 6000 := by rcases Nat.lt_or_ge 6000 q.buf.length with h | h; exact absurd (.inl h) cg; exact h
 have hb6 : bs.length ≤ 6000 := by rcases Nat.lt_or_ge 6000 bs.length with h | h; exact absurd (.inr h) cg; exact h
 have A2 := A1.keep F2 (by simp)
 have hv2 := hv1.keep F2 (by simp)
 have hx2 := hx1.keep F2 (by simp)
 have sx := hx2.isSl
 have nx := hx2.lnI
 obtain ⟨k, hk⟩ : ∃ k : Nat, k = cut.toNat % (bs.length + 1) := ⟨_, rfl⟩
 have hkl : k ≤ bs.length := by have := Nat.mod_lt cut.toNat (show 0 < bs.length + 1 by omega); omega
 have w1 : IntKind.i64.wrap cut = cut := w_i64 (by omega) (by omega)
 have w2 : IntKind.i64.wrap ((bs.length : Int) + 1) = (bs.length : Int) + 1 := w_i64 (by omega) (by omega)
 have w3 : cut.tmod ((bs.length : Int) + 1) = (k : Int) := by
  have e : cut.tmod ((bs.length : Int) + 1) = (k : Int) := by
   rw [Int.tmod_eq_emod_of_nonneg hc0, hk]
   push_cast
   rw [Int.toNat_of_nonneg hc0]
  exact e
 have ne0 : ((bs.length : Int) + 1 = 0) = False := eq_false (by omega)
 (repeat (first | refine st ?_ | refine σa ?_ | (refine σb ?_; simp (disch := omega) only [push_cast, ↓reduceIte, reduceCtorEq, ν1, ν2, ν3, ν4, ν5, ζ1, ζ2, ζ3, ζ4, ζ5, sx, nx, w1, w2, w3, ne0, A2.ld, pvL_ld, buildE, lsE])))
 refine (pto_spec q vb M2 hv2 (by omega)).mono ?_
 rintro r M3 ⟨F3, u3, rfl, n3⟩
 (repeat (first | refine st ?_ | refine σa ?_ | (refine σb ?_; simp (disch := omega) only [push_cast, ↓reduceIte, reduceCtorEq, ν1, ν2, ν3, ν4, ν5, ζ1, ζ2, ζ3, ζ4, ζ5, lsE])))
 obtain ⟨S, hS⟩ : ∃ S, feedP q bs = S := ⟨_, rfl⟩
 refine pfeedK (q := q) (vb := u3) (bs := bs) n3.1.sl (hx2.keep F3 (by simp)) hb1 hb2 (by omega) hS fun M4 u4 vo4 ve4 ws4 f4 h4 _ => ?_
 have one4 : (pvL S.p u4).all Value.oneCell' = true := pvL_one h4.buf.isSl
 (repeat (first | refine st ?_ | refine σa ?_ | (refine σb ?_; simp (disch := omega) only [push_cast, ↓reduceIte, reduceCtorEq, ν1, ν2, ν3, ν4, ν5, ζ1, ζ2, ζ3, ζ4, ζ5, pvL_len, pvL_ld, one4, mem2E, List.drop_nil, List.append_nil, memE, boxE, boxE, buildE, lsE])))
 have P5 := Fr.push M4 (.box (pvL S.p u4))
 have W5 := At.push M4 (.box (pvL S.p u4))
 have F25 := (F3.tr f4).tr P5
 have A5 := A2.keep F25 (by simp)
 have hv5 := hv2.keep F25 (by simp)
 have hx5 := hx2.keep F25 (by simp)
 have h5 := h4.keep P5
 generalize M4 ++ [Blk.box (pvL S.p u4)] = M5 at *
 obtain ⟨vk, hvk', pk⟩ := hx5.pcTo k hkl
 have sz5 := hx5.sz
 have bl5 := eq_true hx5.blks
 (repeat (first | refine st ?_ | refine σa ?_ | refine d9_Pee ?_ | ((first | refine a9_Pee ?_ | refine σb ?_ | refine σc ?_); simp (disch := omega) only [push_cast, ↓reduceIte, reduceCtorEq, ν1, ν2, ν3, ν4, ν5, ζ1, ζ2, ζ3, ζ4, ζ5, A5.ld, pvL_ld, sx, nx, sz5, bl5, hvk', Option.map_none, buildE, lsE])))
 have Z5 := Fr.push M5 (.box zeroL)
 have B5 := At.push M5 (.box zeroL)
 unfold zeroL at Z5 B5
 obtain ⟨s5, hs5⟩ : ∃ s5, s5 = M5.length := ⟨_, rfl⟩
 rw [← hs5] at B5 ⊢
 generalize M5 ++ [Blk.box [.int .u32 0, .int .u32 0, .int .i64 0, .int .u32 0, .int .i64 0, .slice none 0 0, .int .i64 0, .int .i64 0, .int .i64 0, .int .u32 0]] = M6 at *
 refine (pto_spec q vb M6 (hv5.keep Z5 (by simp)) (by omega)).mono ?_
 rintro r M7 ⟨F7, u7, rfl, n7⟩
 refine ⟨F7, ?_⟩
 (repeat (first | refine st ?_ | refine σa ?_ | refine d9_Pee ?_ | ((first | refine a9_Pee ?_ | refine σb ?_ | refine σc ?_); simp (disch := omega) only [push_cast, ↓reduceIte, reduceCtorEq, ν1, ν2, ν3, ν4, ν5, ζ1, ζ2, ζ3, ζ4, ζ5, lsE])))
 have hbk : bytesL (bs.take k) := fun x h => hb2 x (List.mem_of_mem_take h)
 have hlk : (bs.take k).length = k := by rw [List.length_take]; omega
 obtain ⟨S1, hS1⟩ : ∃ S1, feedP q (bs.take k) = S1 := ⟨_, rfl⟩
 have F57 := Z5.tr F7
 refine pfeedK (q := q) (vb := u7) (bs := bs.take k) n7.1.sl (pk.sl.keep F57 (by simp)) hb1 hbk (by omega) hS1 fun M8 u8 vo8 ve8 ws8 f8 h8 k8 => ?_
 have one8 : (pvL S1.p u8).all Value.oneCell' = true := pvL_one h8.buf.isSl
 have l5 := B5.lt
 have lM7 := F7.1
 have B8 := (B5.keep F7 (by simp)).keep f8 (by simp)
 have fs8 := Fr.set M8 s5 (.box (pvL S1.p u8))
 have B9 := B8.set (.box (pvL S1.p u8))
 have F59 : Fr M5 (M8.set s5 (.box (pvL S1.p u8))) [] := ((F57.tr f8).trans fs8).cut (fun c hc hlt => by simp at hc; omega)
 have h9 := h8.keepX fs8 (fun b hb hx => by have := k8 b hb; simp at hx; omega)
 have h59 := h5.keep F59
 have W9 := W5.keep F59 (by simp)
 have hx9 := hx5.keep F59 (by simp)
 obtain ⟨vd, hvd', pd⟩ := hx9.pcFrom k hkl
 have sz9 := hx9.sz
 have bl9 := eq_true (hx5.keep (F57.tr f8) (by simp)).blks
 (repeat (first | refine st ?_ | refine σa ?_ | refine d9_Pee ?_ | ((first | refine a9_Pee ?_ | refine σb ?_ | refine σc ?_); simp (disch := omega) only [push_cast, ↓reduceIte, reduceCtorEq, ν1, ν2, ν3, ν4, ν5, ζ1, ζ2, ζ3, ζ4, ζ5, pvL_len, pvL_ld, one8, B8.get, B8.same, B9.ld, sx, nx, sz9, bl9, hvd', Option.map_none, List.drop_nil, List.append_nil, boxE, buildE, lsE])))
 have hl9 : (M8.set s5 (.box (pvL S1.p u8))).length = M8.length := List.length_set
 generalize M8.set s5 (.box (pvL S1.p u8)) = M9 at *
 have Z9 := Fr.push M9 (.box zeroL)
 have B10 := At.push M9 (.box zeroL)
 unfold zeroL at Z9 B10
 obtain ⟨s9, hs9⟩ : ∃ s9, s9 = M8.length := ⟨_, rfl⟩
 rw [hl9, ← hs9] at B10
 rw [← hs9]
 have hs59 : s5 < s9 := by rw [hs9, ← hl9]; exact B9.lt
 generalize M9 ++ [Blk.box [.int .u32 0, .int .u32 0, .int .i64 0, .int .u32 0, .int .i64 0, .slice none 0 0, .int .i64 0, .int .i64 0, .int .i64 0, .int .u32 0]] = M10 at *
 obtain ⟨z1, z2, z3, z4, z5⟩ := feedP_size hb1 hbk (by omega)
 rw [hS1] at z1 z2 z3 z4 z5
 have hbd : bytesL (bs.drop k) := fun x h => hb2 x (List.mem_of_mem_drop h)
 have hld : (bs.drop k).length = bs.length - k := List.length_drop
 obtain ⟨S2, hS2⟩ : ∃ S2, feedP S1.p (bs.drop k) = S2 := ⟨_, rfl⟩
 refine pfeedK (q := S1.p) (vb := u8) (bs := bs.drop k) (h9.buf.keep Z9 (by simp)) (pd.sl.keep Z9 (by simp)) z5 hbd (by omega) hS2 fun M11 u11 vo11 ve11 ws11 f11 h11 k11 => ?_
 have one11 : (pvL S2.p u11).all Value.oneCell' = true := pvL_one h11.buf.isSl
 have l10 := B10.lt
 have B11 := B10.keep f11 (by simp)
 have fs11 := Fr.set M11 s9 (.box (pvL S2.p u11))
 have B12 := B11.set (.box (pvL S2.p u11))
 have lM9 : M9.length = s9 := by rw [hl9, ← hs9]
 have F912 : Fr M9 (M11.set s9 (.box (pvL S2.p u11))) [] := ((Z9.tr f11).trans fs11).cut (fun c hc hlt => by simp at hc; omega)
 have h12 := h11.keepX fs11 (fun b hb hx => by have := k11 b hb; simp at hx; omega)
 have h912 := h9.keep F912
 have h512 := h59.keep F912
 have W12 := W9.keep F912 (by simp)
 (repeat (first | refine st ?_ | refine σa ?_ | refine d9_Pee ?_ | ((first | refine a9_Pee ?_ | refine σb ?_ | refine σc ?_); simp (disch := omega) only [push_cast, ↓reduceIte, reduceCtorEq, ν1, ν2, ν3, ν4, ν5, ζ1, ζ2, ζ3, ζ4, ζ5, pvL_len, pvL_ld, one11, B11.get, B11.same, W12.ld, B12.ld, List.drop_nil, List.append_nil, boxE, buildE, lsE])))
 generalize M11.set s9 (.box (pvL S2.p u11)) = M12 at *
 have pc := feed_pieces hb1 hbk hbd
 rw [List.take_append_drop, hS, hS1, hS2] at pc
 obtain ⟨e1, e2, e3⟩ := pc
 obtain ⟨y1, y2, y3, y4, y5⟩ := feedP_size hb1 hb2 (by omega)
 rw [hS] at y1 y2 y3 y4 y5
 obtain ⟨x1, x2, x3, x4, x5⟩ := feedP_size z5 hbd (by omega)
 rw [hS2] at x1 x2 x3 x4 x5
 refine (pfrom_spec S.p u4 M12 h512.buf.isSl).mono ?_
 rintro r M13 ⟨F13, rfl⟩
 refine ⟨F13, ?_⟩
 (repeat (first | refine st ?_ | refine σa ?_ | refine d9_Pee ?_ | ((first | refine a9_Pee ?_ | refine σb ?_ | refine σc ?_); simp (disch := omega) only [push_cast, ↓reduceIte, reduceCtorEq, ν1, ν2, ν3, ν4, ν5, ζ1, ζ2, ζ3, ζ4, ζ5, lsE])))
 refine (pfrom_spec S2.p u11 M13 h12.buf.isSl).mono ?_
 rintro r M14 ⟨F14, rfl⟩
 (repeat (first | refine st ?_ | refine σa ?_ | refine d9_Pee ?_ | ((first | refine a9_Pee ?_ | refine σb ?_ | refine σc ?_); simp (disch := omega) only [push_cast, ↓reduceIte, reduceCtorEq, ν1, ν2, ν3, ν4, ν5, ζ1, ζ2, ζ3, ζ4, ζ5, lsE])))
 have F1214 := F13.tr F14
 refine CallA.mono (by rw [e1]; exact psame_eq S2.p u4 u11 M14 (by rw [← e1]; exact (h512.keep F1214).buf) ((h12.keep F1214).buf) (by omega)) ?_
 rintro r M15 ⟨F15, rfl⟩
 (repeat (first | refine st ?_ | refine σa ?_ | refine d9_Pee ?_ | ((first | refine a9_Pee ?_ | refine σb ?_ | refine σc ?_); simp (disch := omega) only [push_cast, ↓reduceIte, reduceCtorEq, ν1, ν2, ν3, ν4, ν5, ζ1, ζ2, ζ3, ζ4, ζ5, lsE])))
 have F1215 := F1214.tr F15
 refine appB0 (h912.keep F1215).out (by omega) fun w16 M16 n16 f16 => ?_
 (repeat (first | refine st ?_ | refine σa ?_ | refine d9_Pee ?_ | ((first | refine a9_Pee ?_ | refine σb ?_ | refine σc ?_); simp (disch := omega) only [push_cast, ↓reduceIte, reduceCtorEq, ν1, ν2, ν3, ν4, ν5, ζ1, ζ2, ζ3, ζ4, ζ5, lsE])))
 refine appB1 n16 f16 (h12.keep (F1215.tr f16)).out (by omega) fun w17 M17 n17 f17 => ?_
 (repeat (first | refine st ?_ | refine σa ?_ | refine d9_Pee ?_ | ((first | refine a9_Pee ?_ | refine σb ?_ | refine σc ?_); simp (disch := omega) only [push_cast, ↓reduceIte, reduceCtorEq, ν1, ν2, ν3, ν4, ν5, ζ1, ζ2, ζ3, ζ4, ζ5, lsE])))
 have F1217 := F1215.tr f17
 refine (bytes_spec vo4 w17 S.out (S1.out ++ S2.out) M17 (h512.keep F1217).out n17.1.sl (by omega)).mono ?_
 rintro r M18 ⟨rfl, rfl⟩
 rw [decide_eq_true e2]
 refine ⟨Fr.refl _, ?_⟩
 (repeat (first | refine st ?_ | refine σa ?_ | refine d9_Pee ?_ | ((first | refine a9_Pee ?_ | refine σb ?_ | refine σc ?_); simp (disch := omega) only [push_cast, ↓reduceIte, reduceCtorEq, ν1, ν2, ν3, ν4, ν5, ζ1, ζ2, ζ3, ζ4, ζ5, lsE])))
 have q4 := h512.keep F1217
 have q8 := h912.keep F1217
 have q11 := h12.keep F1217
 refine (pevents_spec ve4 ws4 M18 q4.evs q4.good (by rw [q4.len]; omega)).mono ?_
 rintro r19 M19 ⟨F19, n19⟩
 refine ⟨F19, ?_⟩
 (repeat (first | refine st ?_ | refine σa ?_ | refine d9_Pee ?_ | ((first | refine a9_Pee ?_ | refine σb ?_ | refine σc ?_); simp (disch := omega) only [push_cast, ↓reduceIte, reduceCtorEq, ν1, ν2, ν3, ν4, ν5, ζ1, ζ2, ζ3, ζ4, ζ5, lsE])))
 have q8' := q8.keep F19
 refine (pevents_spec ve8 ws8 M19 q8'.evs q8'.good (by rw [q8'.len]; omega)).mono ?_
 rintro r20 M20 ⟨F20, n20⟩
 refine ⟨F20, ?_⟩
 (repeat (first | refine st ?_ | refine σa ?_ | refine d9_Pee ?_ | ((first | refine a9_Pee ?_ | refine σb ?_ | refine σc ?_); simp (disch := omega) only [push_cast, ↓reduceIte, reduceCtorEq, ν1, ν2, ν3, ν4, ν5, ζ1, ζ2, ζ3, ζ4, ζ5, lsE])))
 have q11' := (q11.keep F19).keep F20
 refine (pevents_spec ve11 ws11 M20 q11'.evs q11'.good (by rw [q11'.len]; omega)).mono ?_
 rintro r21 M21 ⟨F21, n21⟩
 refine ⟨F21, ?_⟩
 (repeat (first | refine st ?_ | refine σa ?_ | refine d9_Pee ?_ | ((first | refine a9_Pee ?_ | refine σb ?_ | refine σc ?_); simp (disch := omega) only [push_cast, ↓reduceIte, reduceCtorEq, ν1, ν2, ν3, ν4, ν5, ζ1, ζ2, ζ3, ζ4, ζ5, lsE])))
 have n20' := n20.keep F21 (by simp)
 refine appK.elems (P := Try.prog) (e := 147) (s := 18) (bt := 192) (z := [.int .i64 0, .int .i64 0, .int .u32 0, .int .u32 0, .int .i64 0, .slice none 0 0, .int .i64 0, .slice none 0 0, .int .u32 0, .int .u32 0, .int .u32 0, .bool false, .bool false, .slice none 0 0, .slice none 0 0, .int .i64 0, .int .i64 0, .slice none 0 0]) (by kernel_rfl) (by kernel_rfl) (by kernel_rfl) rfl (by kernel_rfl) (by decide) n20'.1 n21.1.sl (by rw [evsL_length, evsL_length, q8'.len, q11'.len]; omega) ?_
 intro v22 M22 N22 F22
 (repeat (first | refine st ?_ | refine σa ?_ | refine d9_Pee ?_ | ((first | refine a9_Pee ?_ | refine σb ?_ | refine σc ?_); simp (disch := omega) only [push_cast, ↓reduceIte, reduceCtorEq, ν1, ν2, ν3, ν4, ν5, ζ1, ζ2, ζ3, ζ4, ζ5, lsE])))
 have F1922 : Fr M19 M22 [] := (F20.tr F21).new n20' F22
 have e22 : evsL ws8 ++ evsL ws11 = evsL (ws8 ++ ws11) := by unfold evsL; rw [List.flatMap_append]
 rw [e22] at N22
 have q4' := (q4.keep F19).keep F1922
 have q8a := q8'.keep F1922
 have q11a := (q11.keep F19).keep F1922
 refine (pevsame_eq r19 v22 ws4 (ws8 ++ ws11) M22 (n19.1.sl.keep F1922 (by simp)) N22.1.sl q4'.good (fun w hw => (List.mem_append.1 hw).elim (q8a.good w) (q11a.good w)) (by rw [List.map_append, q4.ews, q8.ews, q11.ews, e3]) (fun w hw => y1 w.e (by rw [← q4.ews]; exact List.mem_map_of_mem hw)) (by rw [q4.len]; omega)).mono ?_
 rintro r M23 ⟨F23, rfl⟩
 refine ⟨F23, ?_⟩
 (repeat (first | refine st ?_ | refine σa ?_ | refine d9_Pee ?_ | ((first | refine a9_Pee ?_ | refine σb ?_ | refine σc ?_); simp (disch := omega) only [push_cast, ↓reduceIte, reduceCtorEq, ν1, ν2, ν3, ν4, ν5, ζ1, ζ2, ζ3, ζ4, ζ5, lsE])))
 ((first | refine retA.ret (by rfl) ?_ | refine retA.normal (by rfl) ?_); simp (disch := omega) only [push_cast, ↓reduceIte, reduceCtorEq, Nat.reduceAdd, Nat.reduceMul, Nat.reduceLeDiff, Nat.reduceLT, Nat.reduceSub, Int.reduceNe, Int.reduceEq, Int.reduceLE, Int.reduceLT, Int.reduceToNat])
end Go.Proofs.Ytbdejnnbpdgjlaa.Ax
