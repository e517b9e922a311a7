/- Steps in a region whose order is drawn: a plan is checked at once, then each operation is looked at. No conditions: definitions and lemmas alone. -/
import Derived.Test.YtbdejnnbpdgjlaaPeerXLibB
import Derived.RangeFuncRecord
import Derived.RangeFuncSeq
import Derived.Deep.Slices
import Derived.WideShapes
namespace Go.Proofs.Ytbdejnnbpdgjlaa.Ax
open Go Go.RowKit
set_option linter.unusedVariables false
set_option linter.unusedSimpArgs false
def isEff : Op → Bool
 | .store .. | .mapUpdate .. | .insert .. | .mapEntry .. | .entryStore .. | .next .. | .range .. | .send .. | .select .. | .go _ | .defer _ | .recv .. => true
 | .call { callee := .value _, .. } | .call { callee := .invoke .., .. } => true
 | .call { callee := .builtin b, .. } => match b with
  | .len | .min | .max => false
  | _ => true
 | _ => false
def planOk (ops : Array Oper) : List Nat → List Nat → Bool
 | [], done => (List.range ops.size).all fun i => done.contains i
 | i :: todo, done => !done.contains i && (match ops[i]? with
   | some o => if isEff o.op then aloneOf ops done i && (o.guard.isNone || freeOf ops done i) else freeOf ops done i
   | none => false) && planOk ops todo (i :: done)
def ADL (P : Program) (ops : Array Oper) (todo done : List Nat) (Ls : List (Nat × LP)) (K : List Value → Mem → Prop) (t : List Value) (M : Mem) : Prop :=
 okOps ops = true → planOk ops todo done = true → (∀ p ∈ Ls, p.2.holds M) → AD P ops done (Ls.map fun p => (p.1, p.2.holds)) K t M
section
variable {P : Program} {ops : Array Oper} {todo done : List Nat} {Ls : List (Nat × LP)} {K : List Value → Mem → Prop} {t : List Value} {M : Mem} {Q : Exit → List Value → Mem → Prop}
variable {i : Nat} {dst : Option Tmp} {type : TypeId} {pos : String} {after : Array Edge}
@[congr] theorem ADL.cong {t' : List Value} {M' : Mem} (ht : t = t') (hM : M = M') : ADL P ops todo done Ls K t M = ADL P ops todo done Ls K t' M' := by rw [ht, hM]
theorem planOk_cons {o : Oper} (ho : ops[i]? = some o) (h : planOk ops (i :: todo) done = true) : i ∉ done ∧ (isEff o.op = false → freeOf ops done i = true) ∧ (isEff o.op = true → aloneOf ops done i = true) ∧ (o.guard ≠ none → freeOf ops done i = true) ∧ planOk ops todo (i :: done) = true := by
 simp only [planOk, ho, Bool.and_eq_true, Bool.not_eq_true', ← Bool.not_eq_true, List.contains_iff_mem] at h
 obtain ⟨⟨h1, h2⟩, h3⟩ := h
 refine ⟨h1, ?_, ?_, ?_, h3⟩
 ·intro he; rw [if_neg (by simp [he])] at h2; exact h2
 ·intro he; rw [if_pos he] at h2; simp only [Bool.and_eq_true] at h2; exact h2.1
 ·intro hg
  by_cases he : isEff o.op = true
  ·rw [if_pos he] at h2
   simp only [Bool.and_eq_true, Bool.or_eq_true, Option.isNone_iff_eq_none] at h2
   exact h2.2.resolve_left hg
  ·rw [if_neg he] at h2; exact h2
theorem AW.dr (hm : P.follows .mixedOrders = true) {id : Nat} (todo : List Nat) (h1 : okOps ops = true) (h2 : planOk ops todo [] = true) (h : ADL P ops todo [] [] (Q .normal) t M) (hd : calmOps ops.toList = true := by rfl) : AW P (.region id ops true) Q t M :=
 AW.draw hm (h h1 h2 (by simp)) hd
theorem ADL.nil (h : K t M) : ADL P ops [] done Ls K t M := fun h1 h2 _ => AD.fin h1 h2 h
theorem mem_map_ls {M : Mem} (h : ∀ p ∈ Ls, p.2.holds M) : ∀ p ∈ Ls.map (fun p => (p.1, p.2.holds)), p.2 M := by
 intro p hp
 obtain ⟨q, hq, rfl⟩ := List.mem_map.1 hp
 exact h q hq
theorem ADL.pu {op : Op} (ho : ops[i]? = some ⟨dst, op, type, pos, after, none⟩) (he : isEff op = false) (hok : okOpds ⟨dst, op, type, pos, after, none⟩ = true) (h : ∃ v, apure P (ev t) op = some v ∧ ADL P ops todo (i :: done) Ls K (putT t dst v) M) : ADL P ops (i :: todo) done Ls K t M := by
 intro h1 h2 h3
 obtain ⟨p1, p2, _, _, p3⟩ := planOk_cons ho h2
 obtain ⟨v, hv, hc⟩ := h
 exact AD.pure ho p1 (p2 he) hok rfl (apure_sound hv) (mem_map_ls h3) (hc h1 p3 h3)
theorem ADL.lp (L : LP) {o : Oper} {v : Value} (ho : ops[i]? = some o) (he : isEff o.op = false) (hok : okOpds o = true) (hw : wantA ops o t = true) (hv : LoadA P o (ev t) L.holds v) (hl : L.holds M) (h : ADL P ops todo (i :: done) (Ls ++ [(i, L)]) K (putT t o.dst v) M) : ADL P ops (i :: todo) done Ls K t M := by
 intro h1 h2 h3
 obtain ⟨p1, p2, _, _, p3⟩ := planOk_cons ho h2
 have := h h1 p3 (fun p hp => by rcases List.mem_append.1 hp with hp | hp; exact h3 p hp; simp at hp; subst hp; exact hl)
 rw [List.map_append] at this
 exact AD.load ho p1 (p2 he) hok hw hv (mem_map_ls h3) hl this
theorem ADL.fr {o : Oper} {v : Nat → Value} {B : Blk} (ho : ops[i]? = some o) (he : isEff o.op = false) (hok : okOpds o = true) (hw : wantA ops o t = true) (hv : FreshA P o (ev t) B v) (h : ADL P ops todo (i :: done) Ls K (putT t o.dst (v M.length)) (M ++ [B])) : ADL P ops (i :: todo) done Ls K t M := by
 intro h1 h2 h3
 obtain ⟨p1, p2, _, _, p3⟩ := planOk_cons ho h2
 have h3' : ∀ p ∈ Ls, p.2.holds (M ++ [B]) := fun p hp => p.2.keep M _ (h3 p hp) (Fr.push M B)
 exact AD.fresh ho p1 (p2 he) hok hw hv (mem_map_ls h3') (h h1 p3 h3')
theorem ADL.ef {o : Oper} (ho : ops[i]? = some o) (he : isEff o.op = true) (hok : okOpds o = true) (hw : wantA ops o t = true)
  (h : AOp P o (ev t) M fun v M' => (∀ p ∈ Ls.filter (fun p => !bef ops p.1 i), p.2.holds M') ∧ ADL P ops todo (i :: done) (Ls.filter fun p => !bef ops p.1 i) K (putT t o.dst v) M') : ADL P ops (i :: todo) done Ls K t M := by
 intro h1 h2 h3
 obtain ⟨p1, _, p2, _, p3⟩ := planOk_cons ho h2
 refine AD.eff h1 ho p1 (p2 he) hok hw (h.mono fun v M' ⟨k1, k2⟩ => ?_)
 have e : (Ls.map fun p => (p.1, p.2.holds)).filter (fun p => !bef ops p.1 i) = (Ls.filter fun p => !bef ops p.1 i).map fun p => (p.1, p.2.holds) := by rw [List.filter_map]; rfl
 rw [e]
 exact ⟨mem_map_ls k1, k2 h1 p3 k1⟩
theorem ADL.ef0 {o : Oper} (ho : ops[i]? = some o) (he : isEff o.op = true) (hok : okOpds o = true) (hw : wantA ops o t = true)
  (h : AOp P o (ev t) M fun v M' => Fr M M' [] ∧ ADL P ops todo (i :: done) Ls K (putT t o.dst v) M') : ADL P ops (i :: todo) done Ls K t M := by
 intro h1 h2 h3
 refine ADL.ef ho he hok hw (h.mono fun v M' ⟨k1, k2⟩ => ?_) h1 h2 h3
 have hk : ∀ p ∈ Ls, p.2.holds M' := fun p hp => p.2.keep M M' (h3 p hp) k1
 refine ⟨fun p hp => hk p (List.mem_filter.1 hp).1, fun q1 q2 q3 => ?_⟩
 refine AD.drop (k2 q1 q2 hk) (fun p hp => ?_) (mem_map_ls hk)
 obtain ⟨q, hq, rfl⟩ := List.mem_map.1 hp
 exact List.mem_map.2 ⟨q, (List.mem_filter.1 hq).1, rfl⟩
theorem ADL.ld {ty : TypeId} {x : Operand} (ho : ops[i]? = some ⟨dst, .load ty x, type, pos, after, none⟩) (hok : okOpd x = true) (h : ptrK (ev t x) fun b j => ∃ v, aload P ty M b j = some v ∧ ADL P ops todo (i :: done) (Ls ++ [(i, LP.load P ty b j v)]) K (putT t dst v) M) : ADL P ops (i :: todo) done Ls K t M := by
 obtain ⟨b, j, hx, v, hv, hc⟩ := ptrK_elim h
 exact ADL.lp (LP.load P ty b j v) ho rfl (by simpa [okOpds, calmOp, Op.operands] using hok) rfl (load_load rfl hx) hv hc
theorem ADL.bx {ty : TypeId} {x : Operand} (ho : ops[i]? = some ⟨dst, .box ty x, type, pos, after, none⟩) (hok : okOpd x = true) (h : ADL P ops todo (i :: done) Ls K (putT t dst (.pointer (some ⟨M.length, 0, none⟩))) (M ++ [.box (cl (ev t x))])) : ADL P ops (i :: todo) done Ls K t M :=
 ADL.fr ho rfl (by simpa [okOpds, calmOp, Op.operands] using hok) rfl (fresh_box rfl) h
theorem ADL.al {ty : TypeId} (ho : ops[i]? = some ⟨dst, .alloc ty, type, pos, after, none⟩) (h : ∃ z, tzero P ty = some z ∧ ADL P ops todo (i :: done) Ls K (putT t dst (.pointer (some ⟨M.length, 0, none⟩))) (M ++ [.box z])) : ADL P ops (i :: todo) done Ls K t M := by
 obtain ⟨z, hz, hc⟩ := h
 exact ADL.fr ho rfl rfl rfl (fresh_alloc rfl hz) hc
theorem ADL.lt {ty : TypeId} {len : Nat} {parts : Array (Nat × Operand)} (ho : ops[i]? = some ⟨dst, .buildSlice ty len parts, type, pos, after, none⟩) (hok : okOpds ⟨dst, .buildSlice ty len parts, type, pos, after, none⟩ = true) (h : ∃ s cs, alit P ty len (parts.toList.map fun p => (p.1, ev t p.2)) = some (s, cs) ∧ ADL P ops todo (i :: done) Ls K (putT t dst (.slice (some ⟨M.length, 0, none⟩) len len)) (M ++ [.row true s cs])) : ADL P ops (i :: todo) done Ls K t M := by
 obtain ⟨s, cs, hv, hc⟩ := h
 exact ADL.fr ho rfl hok rfl (fresh_lit rfl hv) hc
theorem ADL.sl {ty e : TypeId} {x : Operand} {lo hi mx : Option Operand} (hu : P.underlying ty = some (.slice e)) (ho : ops[i]? = some ⟨dst, .slice ty x lo hi mx, type, pos, after, none⟩) (hok : okOpds ⟨dst, .slice ty x lo hi mx, type, pos, after, none⟩ = true)
  (h : ∃ s v, tsz P e = some s ∧ szOk M (ev t x) s ∧ (∀ b ∈ blkOf (ev t x), b < M.length) ∧ aslice (ev t x) s (lo.map (ev t)) (hi.map (ev t)) (mx.map (ev t)) = some v ∧ ADL P ops todo (i :: done) (Ls ++ [(i, LP.size (ev t x) s)]) K (putT t dst v) M) : ADL P ops (i :: todo) done Ls K t M := by
 obtain ⟨s, v, hs, hz, hb, hv, hc⟩ := h
 have hla : LoadA P (⟨dst, .slice ty x lo hi mx, type, pos, after, none⟩ : Oper) (ev t) (LP.size (ev t x) s).holds v := fun ι N0 ρ' M w hm hL hr => load_slice rfl hu hs hv ι N0 ρ' M w hm hL.1 hr
 exact ADL.lp (LP.size (ev t x) s) ho rfl hok rfl hla ⟨hz, hb⟩ hc
theorem ADL.st {ty : TypeId} {x y : Operand} (ho : ops[i]? = some ⟨dst, .store ty x y, type, pos, after, none⟩) (hok : okOpd x = true) (hok' : okOpd y = true) (h : ptrK (ev t x) fun b j => ∃ B, M[b]? = some B ∧ B.ours = true ∧ tsz P ty = some (cl (ev t y)).length ∧ 0 < (cl (ev t y)).length ∧ (cl (ev t y)).all Value.oneCell' = true ∧ j + (cl (ev t y)).length ≤ B.cells.length ∧
  ((∀ p ∈ Ls.filter (fun p => !bef ops p.1 i), p.2.holds (M.set b (B.put (spl B.cells j (cl (ev t y)))))) ∧ ADL P ops todo (i :: done) (Ls.filter fun p => !bef ops p.1 i) K (putT t dst undef) (M.set b (B.put (spl B.cells j (cl (ev t y))))))) : ADL P ops (i :: todo) done Ls K t M := by
 obtain ⟨b, j, hx, B, hB, h1, h2, h3, h4, h5, hc⟩ := ptrK_elim h
 exact ADL.ef ho rfl (by simp [okOpds, calmOp, Op.operands, hok, hok']) rfl (AOp.store rfl hx h2 rfl rfl h3 h4 hB h1 h5 hc)
theorem ADL.ap {ty ty' : TypeId} {x y : Operand} (ho : ops[i]? = some ⟨dst, .call { callee := .builtin .append, args := ⟨[x, y]⟩, argTypes := ⟨[ty, ty']⟩ }, type, pos, after, none⟩) (hok : okOpd x = true) (hok' : okOpd y = true)
  (h : appK P ty ty' (ev t x) (ev t y) M fun v' M' => (∀ p ∈ Ls.filter (fun p => !bef ops p.1 i), p.2.holds M') ∧ ADL P ops todo (i :: done) (Ls.filter fun p => !bef ops p.1 i) K (putT t dst v') M') : ADL P ops (i :: todo) done Ls K t M :=
 ADL.ef ho rfl (by simp [okOpds, calmOp, Op.operands, Call.operands, hok, hok']) rfl (appK_sound rfl h)
theorem ADL.ca {f : Operand} {args : Array Operand} {tys : Array TypeId} (ho : ops[i]? = some ⟨dst, .call { callee := .value f, args := args, argTypes := tys }, type, pos, after, none⟩) (hok : okOpds ⟨dst, .call { callee := .value f, args := args, argTypes := tys }, type, pos, after, none⟩ = true)
  (h : fnK (ev t f) fun f first capt => CallA P f (first ++ args.toList.map (ev t) ++ capt) M fun v M' => Fr M M' [] ∧ ADL P ops todo (i :: done) Ls K (putT t dst v) M') : ADL P ops (i :: todo) done Ls K t M := by
 obtain ⟨f, first, capt, hg, hc⟩ := fnK_elim h
 exact ADL.ef0 ho rfl hok rfl (AOp.call rfl hg hc fun _ _ h => h)
theorem ADL.guF {op : Op} {j : Nat} {want b : Bool} (ho : ops[i]? = some ⟨dst, op, type, pos, after, some (j, want)⟩) (hy : yieldA ops t j = some b) (hb : b = !want) (h : ADL P ops todo (i :: done) Ls K (putT t dst undef) M) : ADL P ops (i :: todo) done Ls K t M := by
 intro h1 h2 h3
 obtain ⟨p1, _, _, p2, p3⟩ := planOk_cons ho h2
 exact AD.skip ho p1 (p2 (by simp)) (by simp [wantA, hy, hb]) (h h1 p3 h3) (mem_map_ls h3)
theorem ADL.guPu {op : Op} {j : Nat} {want b : Bool} (ho : ops[i]? = some ⟨dst, op, type, pos, after, some (j, want)⟩) (he : isEff op = false) (hy : yieldA ops t j = some b) (hb : b = want) (hok : okOpds ⟨dst, op, type, pos, after, none⟩ = true) (h : ∃ v, apure P (ev t) op = some v ∧ ADL P ops todo (i :: done) Ls K (putT t dst v) M) : ADL P ops (i :: todo) done Ls K t M := by
 intro h1 h2 h3
 obtain ⟨p1, p2, _, _, p3⟩ := planOk_cons ho h2
 obtain ⟨v, hv, hc⟩ := h
 exact AD.pure ho p1 (p2 he) hok (by simp [wantA, hy, hb]) (apure_sound (o := ⟨dst, op, type, pos, after, some (j, want)⟩) hv) (mem_map_ls h3) (hc h1 p3 h3)
theorem ADL.guLd {ty : TypeId} {x : Operand} {j : Nat} {want b : Bool} (ho : ops[i]? = some ⟨dst, .load ty x, type, pos, after, some (j, want)⟩) (hy : yieldA ops t j = some b) (hb : b = want) (hok : okOpd x = true) (h : ptrK (ev t x) fun b j => ∃ v, aload P ty M b j = some v ∧ ADL P ops todo (i :: done) (Ls ++ [(i, LP.load P ty b j v)]) K (putT t dst v) M) : ADL P ops (i :: todo) done Ls K t M := by
 obtain ⟨b, j, hx, v, hv, hc⟩ := ptrK_elim h
 exact ADL.lp (LP.load P ty b j v) ho rfl (by simpa [okOpds, calmOp, Op.operands] using hok) (by simp [wantA, hy, hb]) (load_load rfl hx) hv hc
theorem ADL.guCa {f : Operand} {args : Array Operand} {tys : Array TypeId} {j : Nat} {want b : Bool} (ho : ops[i]? = some ⟨dst, .call { callee := .value f, args := args, argTypes := tys }, type, pos, after, some (j, want)⟩) (hy : yieldA ops t j = some b) (hb : b = want) (hok : okOpds ⟨dst, .call { callee := .value f, args := args, argTypes := tys }, type, pos, after, none⟩ = true)
  (h : fnK (ev t f) fun f first capt => CallA P f (first ++ args.toList.map (ev t) ++ capt) M fun v M' => Fr M M' [] ∧ ADL P ops todo (i :: done) Ls K (putT t dst v) M') : ADL P ops (i :: todo) done Ls K t M := by
 obtain ⟨f, first, capt, hg, hc⟩ := fnK_elim h
 exact ADL.ef0 ho rfl hok (by simp [wantA, hy, hb]) (AOp.call rfl hg hc fun _ _ h => h)
theorem filt_none (hL : (Ls.map Prod.fst).all (fun x => bef ops x i) = true) : (Ls.filter fun p => !bef ops p.1 i) = [] := by
 rw [List.filter_eq_nil_iff]
 intro p hp
 have := List.all_eq_true.1 hL p.1 (List.mem_map_of_mem hp)
 simp [this]
theorem ADL.stN {ty : TypeId} {x y : Operand} (ho : ops[i]? = some ⟨dst, .store ty x y, type, pos, after, none⟩) (hok : okOpd x = true) (hok' : okOpd y = true) (hL : (Ls.map Prod.fst).all (fun x => bef ops x i) = true) (h : ptrK (ev t x) fun b j => ∃ B, M[b]? = some B ∧ B.ours = true ∧ tsz P ty = some (cl (ev t y)).length ∧ 0 < (cl (ev t y)).length ∧ (cl (ev t y)).all Value.oneCell' = true ∧ j + (cl (ev t y)).length ≤ B.cells.length ∧
  ADL P ops todo (i :: done) [] K (putT t dst undef) (M.set b (B.put (spl B.cells j (cl (ev t y)))))) : ADL P ops (i :: todo) done Ls K t M := by
 obtain ⟨b, j, hx, B, hB, h1, h2, h3, h4, h5, hc⟩ := ptrK_elim h
 refine ADL.ef ho rfl (by simp [okOpds, calmOp, Op.operands, hok, hok']) rfl (AOp.store rfl hx h2 rfl rfl h3 h4 hB h1 h5 ?_)
 rw [filt_none hL]
 exact ⟨by simp, hc⟩
theorem ADL.caN {f : Operand} {args : Array Operand} {tys : Array TypeId} (ho : ops[i]? = some ⟨dst, .call { callee := .value f, args := args, argTypes := tys }, type, pos, after, none⟩) (hok : okOpds ⟨dst, .call { callee := .value f, args := args, argTypes := tys }, type, pos, after, none⟩ = true) (hL : (Ls.map Prod.fst).all (fun x => bef ops x i) = true)
  (h : fnK (ev t f) fun f first capt => CallA P f (first ++ args.toList.map (ev t) ++ capt) M fun v M' => ADL P ops todo (i :: done) [] K (putT t dst v) M') : ADL P ops (i :: todo) done Ls K t M := by
 obtain ⟨f, first, capt, hg, hc⟩ := fnK_elim h
 refine ADL.ef ho rfl hok rfl (AOp.call rfl hg hc fun v M' h => ?_)
 rw [filt_none hL]
 exact ⟨by simp, h⟩
theorem ADL.apN {ty ty' : TypeId} {x y : Operand} (ho : ops[i]? = some ⟨dst, .call { callee := .builtin .append, args := ⟨[x, y]⟩, argTypes := ⟨[ty, ty']⟩ }, type, pos, after, none⟩) (hok : okOpd x = true) (hok' : okOpd y = true) (hL : (Ls.map Prod.fst).all (fun x => bef ops x i) = true)
  (h : appK P ty ty' (ev t x) (ev t y) M fun v' M' => ADL P ops todo (i :: done) [] K (putT t dst v') M') : ADL P ops (i :: todo) done Ls K t M := by
 refine ADL.ef ho rfl (by simp [okOpds, calmOp, Op.operands, Call.operands, hok, hok']) rfl ((appK_sound rfl h).mono fun v M' h => ?_)
 rw [filt_none hL]
 exact ⟨by simp, h⟩
def isSlT (P : Program) (ty : TypeId) : Bool := match P.underlying ty with
 | some (.slice _) => true
 | _ => false
theorem AL.slW {ty : TypeId} {x : Operand} {lo hi mx : Option Operand} {rest : List Oper} (ht : isSlT P ty = true) (hok : okOpds ⟨dst, .slice ty x lo hi mx, type, pos, after, none⟩ = true)
  (h : ∃ e s v, P.underlying ty = some (.slice e) ∧ tsz P e = some s ∧ szOk M (ev t x) s ∧ aslice (ev t x) s (lo.map (ev t)) (hi.map (ev t)) (mx.map (ev t)) = some v ∧ AL P ops rest K (putT t dst v) M) : AL P ops (⟨dst, .slice ty x lo hi mx, type, pos, after, none⟩ :: rest) K t M := by
 obtain ⟨e, s, v, hu, hs, hz, hv, hc⟩ := h
 exact AL.sl hu hok ⟨s, v, hs, hz, hv, hc⟩
theorem ADL.slW {ty : TypeId} {x : Operand} {lo hi mx : Option Operand} (ho : ops[i]? = some ⟨dst, .slice ty x lo hi mx, type, pos, after, none⟩) (ht : isSlT P ty = true) (hok : okOpds ⟨dst, .slice ty x lo hi mx, type, pos, after, none⟩ = true)
  (h : ∃ e s v, P.underlying ty = some (.slice e) ∧ tsz P e = some s ∧ szOk M (ev t x) s ∧ (∀ b ∈ blkOf (ev t x), b < M.length) ∧ aslice (ev t x) s (lo.map (ev t)) (hi.map (ev t)) (mx.map (ev t)) = some v ∧ ADL P ops todo (i :: done) (Ls ++ [(i, LP.size (ev t x) s)]) K (putT t dst v) M) : ADL P ops (i :: todo) done Ls K t M := by
 obtain ⟨e, s, v, hu, hs, hz, hb, hv, hc⟩ := h
 exact ADL.sl hu ho hok ⟨s, v, hs, hz, hb, hv, hc⟩
end
structure At (M : Mem) (b : Nat) (B : Blk) : Prop where
 get : M[b]? = some B
theorem At.keep {M M' : Mem} {X : List Nat} {b : Nat} {B : Blk} (h : At M b B) (f : Fr M M' X) (hn : b ∉ X) : At M' b B := ⟨(f.2 b (List.getElem?_eq_some_iff.1 h.get).1 hn).trans h.get⟩
theorem At.lt {M : Mem} {b : Nat} {B : Blk} (h : At M b B) : b < M.length := (List.getElem?_eq_some_iff.1 h.get).1
theorem At.push (M : Mem) (B : Blk) : At (M ++ [B]) M.length B := ⟨by simp⟩
theorem At.set {M : Mem} {b : Nat} {B : Blk} (h : At M b B) (B' : Blk) : At (M.set b B') b B' := ⟨List.getElem?_set_self h.lt⟩
def bload (P : Program) (t : TypeId) (cs : List Value) (j : Nat) : Option Value := match P.underlying t with
 | some (.struct _) | some (.array _ _) => (tsz P t).bind fun n => if j + n ≤ cs.length then some (.agg ⟨(cs.drop j).take n⟩) else none
 | some _ => cs[j]?
 | none => none
theorem At.ld {P : Program} {t : TypeId} {M : Mem} {b j : Nat} {B : Blk} (h : At M b B) : aload P t M b j = bload P t B.cells j := by
 unfold aload bload cellsM cellM
 rw [h.get]
 cases P.underlying t with
 | none => rfl
 | some d =>
  cases d <;> first | rfl | skip
  all_goals
   simp only [Option.bind_some]
   cases tsz P t with
   | none => rfl
   | some n => simp only [Option.bind_some]; split <;> rfl
theorem Sl.cellM {M : Mem} {v : Value} {s : Nat} {cs : List Value} (h : Sl M v s cs) {j : Nat} {u : Value} (hj : cs[j]? = some u) : cellM M (sbk v) (sof v + j) = some u := by
 have h0 : cs ≠ [] := by intro e; subst e; simp at hj
 have := h.cells h0
 unfold cellsM at this
 obtain ⟨B, hB, h2⟩ := Option.bind_eq_some_iff.1 this
 by_cases hle : sof v + cs.length ≤ B.cells.length
 case neg => rw [if_neg hle] at h2; cases h2
 rw [if_pos hle] at h2
 have h2 := Option.some.inj h2
 unfold Ax.cellM
 rw [hB]
 simp only [Option.bind_some]
 rw [← h2, List.getElem?_take, List.getElem?_drop] at hj
 split at hj
 ·exact hj
 ·cases hj
theorem Sl.cellsM {M : Mem} {v : Value} {s : Nat} {cs : List Value} (h : Sl M v s cs) {j n : Nat} (h0 : 0 < n) (hj : j + n ≤ cs.length) : cellsM M (sbk v) (sof v + j) n = some ((cs.drop j).take n) := by
 have hne : cs ≠ [] := by intro e; subst e; simp at hj; omega
 have := h.cells hne
 unfold Ax.cellsM at this ⊢
 obtain ⟨B, hB, h2⟩ := Option.bind_eq_some_iff.1 this
 by_cases hle : sof v + cs.length ≤ B.cells.length
 case neg => rw [if_neg hle] at h2; cases h2
 rw [if_pos hle] at h2
 have h2 := Option.some.inj h2
 rw [hB]
 simp only [Option.bind_some]
 rw [if_pos (by omega)]
 congr 1
 rw [← h2, ← List.drop_drop]
 apply List.ext_getElem?
 intro k
 simp only [List.getElem?_take, List.getElem?_drop]
 by_cases hk : k < n
 ·rw [if_pos hk, if_pos hk, if_pos (by omega)]
 ·rw [if_neg hk, if_neg hk]
def ints (k : IntKind) (xs : List Int) : List Value := xs.map (Value.int k)
theorem ints_length (k : IntKind) (xs : List Int) : (ints k xs).length = xs.length := by simp [ints]
theorem ints_append (k : IntKind) (xs ys : List Int) : ints k xs ++ ints k ys = ints k (xs ++ ys) := by simp [ints]
theorem ints_drop (k : IntKind) (xs : List Int) (n : Nat) : (ints k xs).drop n = ints k (xs.drop n) := by simp [ints, List.map_drop]
theorem ints_take (k : IntKind) (xs : List Int) (n : Nat) : (ints k xs).take n = ints k (xs.take n) := by simp [ints, List.map_take]
theorem Sl.lnI {M : Mem} {v : Value} {k : IntKind} {xs : List Int} (h : Sl M v 1 (ints k xs)) : sln v = xs.length := by have := h.len; rw [ints_length] at this; omega
theorem Sl.ldN {P : Program} {ty : TypeId} {M : Mem} {v : Value} {k : IntKind} {xs : List Int} (h : Sl M v 1 (ints k xs)) (hu : P.underlying ty = some (.int k)) {i : Nat} (h1 : i < xs.length) : aload P ty M (sbk v) (sof v + i) = some (.int k (xs.getD i 0)) := by
 unfold aload
 rw [hu]
 simp only
 refine h.cellM ?_
 unfold ints
 rw [List.getElem?_map, List.getElem?_eq_getElem h1]
 simp [List.getD_eq_getElem?_getD, List.getElem?_eq_getElem h1]
theorem Sl.ld0 {P : Program} {ty : TypeId} {M : Mem} {v : Value} {k : IntKind} {xs : List Int} (h : Sl M v 1 (ints k xs)) (hu : P.underlying ty = some (.int k)) (h1 : 0 < xs.length) : aload P ty M (sbk v) (sof v) = some (.int k (xs.getD 0 0)) := h.ldN hu h1
theorem getD_mem {xs : List Int} {i : Nat} (h : i < xs.length) : xs.getD i 0 ∈ xs := by
 rw [List.getD_eq_getElem?_getD, List.getElem?_eq_getElem h]
 exact List.getElem_mem h
theorem isSl_cl {v : Value} (h : isSl v = true) : cl v = [v] := by cases v <;> first | rfl | (simp [isSl] at h)
theorem isSl_one {v : Value} (h : isSl v = true) : Value.oneCell' v = true := by cases v <;> first | rfl | (simp [isSl] at h)
theorem wrap_in {k : IntKind} {x : Int} (h0 : k.min ≤ x) (h1 : x ≤ k.max) : k.wrap x = x := by
 cases k <;> simp only [IntKind.min, IntKind.max, IntKind.signed, IntKind.bits, IntKind.wrap] at * <;> simp at * <;> omega
theorem w_i64 {x : Int} (h0 : -9223372036854775808 ≤ x) (h1 : x ≤ 9223372036854775807) : IntKind.i64.wrap x = x := wrap_in h0 h1
theorem w_u8 {x : Int} (h0 : 0 ≤ x) (h1 : x ≤ 255) : IntKind.u8.wrap x = x := wrap_in h0 h1
theorem w_u32 {x : Int} (h0 : 0 ≤ x) (h1 : x ≤ 4294967295) : IntKind.u32.wrap x = x := wrap_in h0 h1
theorem w_u64 {x : Int} (h0 : 0 ≤ x) (h1 : x ≤ 18446744073709551615) : IntKind.u64.wrap x = x := wrap_in h0 h1
theorem wm_u8 (x : Int) : IntKind.u8.wrap x = x % 256 := by simp [IntKind.wrap, IntKind.signed, IntKind.bits]
theorem wm_u16 (x : Int) : IntKind.u16.wrap x = x % 65536 := by simp [IntKind.wrap, IntKind.signed, IntKind.bits]
theorem tdiv_in {a b : Int} (h0 : 0 ≤ a) : a.tdiv b = a / b := Int.tdiv_eq_ediv_of_nonneg h0
theorem tmod_in {a b : Int} (h0 : 0 ≤ a) : a.tmod b = a % b := Int.tmod_eq_emod_of_nonneg h0
def alenV (d : Option TypeDesc) (x : Value) : Option Value := match d, x with
 | some .string, .string s => some (.int .i64 s.size)
 | some (.slice _), v => if isSl v = true then some (.int .i64 (sln v)) else none
 | _, _ => none
def aindexW (P : Program) (d : Option TypeDesc) (x i : Value) : Option Value := match d, i with
 | some (.slice e), .int _ n => if isSl x = true ∧ 0 ≤ n ∧ n < sln x then (tsz P e).map fun s => .pointer (some ⟨sbk x, sof x + n.toNat * s, none⟩) else none
 | some (.array len e), .int _ n => match x with
  | .pointer (some a) => if 0 ≤ n ∧ n < len then (tsz P e).map fun s => .pointer (some ⟨a.block, a.off + n.toNat * s, none⟩) else none
  | _ => none
 | _, _ => none
def aindexX (P : Program) (d : Option TypeDesc) (x i : Value) : Option Value := match d, x, i with
 | some (.array len e), .agg cs, .int _ n => if 0 ≤ n ∧ n < len then (tsz P e).bind fun s => apart1 P e cs.toList (n.toNat * s) else none
 | some .string, .string s, .int _ n => if 0 ≤ n then match s[n.toNat]? with
  | some b => some (.int .u8 b.toNat)
  | none => none
  else none
 | _, _, _ => none
attribute [push_cast] Option.some.injEq exists_eq_left' exists_eq_left Option.ite_none_right_eq_some Option.map_some Option.bind_some exists_and_left and_assoc true_and and_true List.length_cons List.length_nil List.drop_succ_cons List.drop_zero List.take_succ_cons List.take_zero List.all_cons List.all_nil Bool.true_and Bool.and_true Value.oneCell' ne_eq not_false_eq_true not_true_eq_false if_true if_false Nat.zero_add Nat.add_zero Nat.le_refl Nat.mul_one Nat.zero_mul decide_true decide_false Blk.cells Prod.mk.injEq
@[push_cast] theorem W :
 (∀ t f, over t [] f = t) ∧
 (∀ t j js f, over t (j :: js) f = over (t.set j (f j)) js f) ∧
 (∀ t i, ev t (.tmp i) = t.getD i undef) ∧
 (∀ t v, ev t (.const v) = v) ∧
 (∀ t f, ev t (.func f) = .func (.func f) #[] #[]) ∧
 (∀ (a : Value) l d, (a :: l).getD 0 d = a) ∧
 (∀ (a : Value) l n d, (a :: l).getD (n + 1) d = l.getD n d) ∧
 (∀ (a b : Value) l, (a :: l).set 0 b = b :: l) ∧
 (∀ (a b : Value) l n, (a :: l).set (n + 1) b = a :: l.set n b) ∧
 (∀ t d v, putT t (some d) v = t.set d v) ∧
 (∀ t v, putT t none v = t) ∧
 (∀ b j K, ptrK (.pointer (some ⟨b, j, none⟩)) K = K b j) ∧
 (∀ f a c K, fnK (.func (.func f) ⟨a⟩ ⟨c⟩) K = K f a c) ∧
 (∀ f K, fnK (.func (.func f) #[] #[]) K = K f [] []) ∧
 (∀ (P : Program) ρ x, apure P ρ (.move x) = some (ρ x)) ∧
 (∀ (P : Program) ρ x, apure P ρ (.assign x) = some (ρ x)) ∧
 (∀ (P : Program) ρ c a b, apure P ρ (.pick c a b) = pickV (ρ c) (ρ a) (ρ b)) ∧
 (∀ b x y, pickV (.bool b) x y = some (if b = true then x else y)) ∧
 (∀ (P : Program) ρ op t x y yt, apure P ρ (.binOp op t x y yt) = abin2 P op t (ρ x) (ρ y)) ∧
 (∀ (P : Program) ρ op t x, apure P ρ (.unOp op t x) = aun op (ρ x)) ∧
 (∀ (P : Program) ρ s d x, apure P ρ (.convert s d x) = aconvV (P.underlying s) (P.underlying d) (ρ x)) ∧
 (∀ (P : Program) ρ x i, apure P ρ (.extract x i) = aextr (ρ x) i) ∧
 (∀ (P : Program) ρ x, apure P ρ (.nilCheck x) = anil (ρ x)) ∧
 (∀ (P : Program) ρ t x f, apure P ρ (.fieldAddr t x f) = afield P t (ρ x) f) ∧
 (∀ (P : Program) ρ t x f, apure P ρ (.field t x f) = afieldv P t (ρ x) f) ∧
 (∀ (P : Program) ρ t x i, apure P ρ (.indexAddr t x i) = aindex P t (ρ x) (ρ i)) ∧
 (∀ (P : Program) ρ t x i, apure P ρ (.index t x i) = aindexv P t (ρ x) (ρ i)) ∧
 (∀ (P : Program) ρ t x lo hi, apure P ρ (.slice t x lo hi none) = astrcut P t (ρ x) (lo.map ρ) (hi.map ρ)) ∧
 (∀ (P : Program) ρ t parts, apure P ρ (.build t parts) = abuild P t (parts.toList.map fun p => (p.1, ρ p.2))) ∧
 (∀ (P : Program) ρ f first captured, apure P ρ (.makeFunc (.func f) first captured) = some (.func (.func f) ⟨first.toList.map ρ⟩ ⟨captured.toList.map ρ⟩)) ∧
 (∀ (P : Program) ρ x t, apure P ρ (.call { callee := .builtin .len, args := ⟨[x]⟩, argTypes := ⟨[t]⟩ }) = alen P t (ρ x)) ∧
 (∀ (P : Program) ρ x l t, apure P ρ (.call { callee := .builtin .min, args := ⟨x :: l⟩, argTypes := t }) = foldO amin2 (ρ x) (l.map ρ)) ∧
 (∀ (P : Program) ρ x l t, apure P ρ (.call { callee := .builtin .max, args := ⟨x :: l⟩, argTypes := t }) = foldO amax2 (ρ x) (l.map ρ)) ∧
 (∀ f x, foldO f x [] = some x) ∧
 (∀ f x y l, foldO f x (y :: l) = (f x y).bind fun z => foldO f z l) ∧
 (∀ k a k' b, amin2 (.int k a) (.int k' b) = some (.int k (if b < a then b else a))) ∧
 (∀ k a k' b, amax2 (.int k a) (.int k' b) = some (.int k (if b > a then b else a))) ∧
 (∀ a, anil (.pointer (some a)) = some (.pointer (some a))) ∧
 (∀ vs i, aextr (.tuple ⟨vs⟩) i = vs[i]?) ∧
 (∀ d k k' n, aconvV (some d) (some (.int k)) (.int k' n) = some (.int k (k.wrap n))) ∧
 (∀ b, aun .not (.bool b) = some (.bool !b)) ∧
 (∀ k n, aun .neg (.int k n) = some (.int k (k.wrap (0 - n)))) ∧
 (∀ (a : Value) l, (a :: l)[0]? = some a) ∧
 (∀ (a : Value) l (n : Nat), (a :: l)[n + 1]? = l[n]?) ∧
 (∀ l, cl (.agg ⟨l⟩) = l) ∧
 (∀ k n, cl (.int k n) = [.int k n]) ∧
 (∀ b, cl (.bool b) = [.bool b]) ∧
 (∀ b, cl (.string b) = [.string b]) ∧
 (∀ b, cl (.pointer b) = [.pointer b]) ∧
 (∀ a n c, cl (.slice a n c) = [.slice a n c]) ∧
 (∀ (P : Program) t k a b, abin2 P .add t (.int k a) (.int k b) = some (.int k (k.wrap (a + b)))) ∧
 (∀ (P : Program) t k a b, abin2 P .sub t (.int k a) (.int k b) = some (.int k (k.wrap (a - b)))) ∧
 (∀ (P : Program) t k a b, abin2 P .mul t (.int k a) (.int k b) = some (.int k (k.wrap (a * b)))) ∧
 (∀ (P : Program) t k a b, abin2 P .quo t (.int k a) (.int k b) = if b ≠ 0 then some (.int k (k.wrap (a.tdiv b))) else none) ∧
 (∀ (P : Program) t k a b, abin2 P .rem t (.int k a) (.int k b) = if b ≠ 0 then some (.int k (a.tmod b)) else none) ∧
 (∀ (P : Program) t k a b, abin2 P .and t (.int k a) (.int k b) = some (bits k (BitVec.ofInt k.bits a &&& BitVec.ofInt k.bits b))) ∧
 (∀ (P : Program) t k a b, abin2 P .or t (.int k a) (.int k b) = some (bits k (BitVec.ofInt k.bits a ||| BitVec.ofInt k.bits b))) ∧
 (∀ (P : Program) t k a b, abin2 P .xor t (.int k a) (.int k b) = some (bits k (BitVec.ofInt k.bits a ^^^ BitVec.ofInt k.bits b))) ∧
 (∀ (P : Program) t k a b, abin2 P .andNot t (.int k a) (.int k b) = some (bits k (BitVec.ofInt k.bits a &&& ~~~ BitVec.ofInt k.bits b))) ∧
 (∀ (P : Program) t k a b, abin2 P .eql t (.int k a) (.int k b) = some (.bool (decide (a = b)))) ∧
 (∀ (P : Program) t k a b, abin2 P .neq t (.int k a) (.int k b) = some (.bool (!decide (a = b)))) ∧
 (∀ (P : Program) t k a b, abin2 P .lss t (.int k a) (.int k b) = some (.bool (decide (a < b)))) ∧
 (∀ (P : Program) t k a b, abin2 P .leq t (.int k a) (.int k b) = some (.bool (decide (a ≤ b)))) ∧
 (∀ (P : Program) t k a b, abin2 P .gtr t (.int k a) (.int k b) = some (.bool (decide (a > b)))) ∧
 (∀ (P : Program) t k a b, abin2 P .geq t (.int k a) (.int k b) = some (.bool (decide (a ≥ b)))) ∧
 (∀ (P : Program) t k a k' b, abin2 P .shl t (.int k a) (.int k' b) = if 0 ≤ b then some (.int k (k.wrap (a * 2 ^ (min b.toNat k.bits)))) else none) ∧
 (∀ (P : Program) t k a k' b, abin2 P .shr t (.int k a) (.int k' b) = if 0 ≤ b then some (.int k (a.fdiv (2 ^ (min b.toNat k.bits)))) else none) ∧
 (∀ (P : Program) t x, alen P t x = alenV (P.underlying t) x) ∧
 (∀ e v, alenV (some (.slice e)) v = if isSl v = true then some (.int .i64 (sln v)) else none) ∧
 (∀ s, alenV (some .string) (.string s) = some (.int .i64 s.size)) ∧
 (∀ (P : Program) t x i, aindex P t x i = aindexW P (P.underlying t) x i) ∧
 (∀ (P : Program) e x k n, aindexW P (some (.slice e)) x (.int k n) = if isSl x = true ∧ 0 ≤ n ∧ n < sln x then (tsz P e).map fun s => .pointer (some ⟨sbk x, sof x + n.toNat * s, none⟩) else none) ∧
 (∀ (P : Program) e len b j k n, aindexW P (some (.array len e)) (.pointer (some ⟨b, j, none⟩)) (.int k n) = if 0 ≤ n ∧ n < len then (tsz P e).map fun s => .pointer (some ⟨b, j + n.toNat * s, none⟩) else none) ∧
 (∀ (P : Program) t x i, aindexv P t x i = aindexX P (P.underlying t) x i) ∧
 (∀ (P : Program) e len cs k n, aindexX P (some (.array len e)) (.agg ⟨cs⟩) (.int k n) = if 0 ≤ n ∧ n < len then (tsz P e).bind fun s => apart1 P e cs (n.toNat * s) else none) ∧
 (∀ pl cs, fillL pl cs [] = some cs) ∧
 (∀ pl cs i v r, fillL pl cs ((i, v) :: r) = match pl i with | some (off, size) => if (cl v).length = size ∧ off + size ≤ cs.length then fillL pl (cs.take off ++ cl v ++ cs.drop (off + size)) r else none | none => none) ∧
 (∀ z, zerosOf z 0 = []) ∧
 (∀ z n, zerosOf z (n + 1) = z ++ zerosOf z n) ∧
 (∀ (P : Program) t M, aresAll P t M [] = some []) ∧
 (∀ (P : Program) t M r rs, aresAll P t M (r :: rs) = (aresOne P t M r).bind fun v => (aresAll P t M rs).map fun vs => v :: vs) ∧
 (∀ (P : Program) t M i, aresOne P t M (.tmp i) = some (t.getD i undef)) ∧
 (∀ (P : Program) t M a ty, aresOne P t M (.cell a ty) = ptrO (t.getD a undef) fun b j => aload P ty M b j) ∧
 (∀ b j K, ptrO (.pointer (some ⟨b, j, none⟩)) K = K b j) ∧
 (∀ (P : Program) t M rs, ares P t M rs = (aresAll P t M rs).map tupV) ∧
 (∀ v, tupV [v] = v) ∧
 (tupV [] = .tuple ⟨[]⟩) ∧
 (∀ u v l, tupV (u :: v :: l) = .tuple ⟨u :: v :: l⟩) ∧
 (∀ f (x : Operand) l, (x :: l).map f = f x :: l.map (f : Operand → Value)) ∧
 (∀ (f : Operand → Value), ([] : List Operand).map f = []) ∧
 (∀ f (x : Nat × Operand) l, (x :: l).map f = f x :: l.map (f : Nat × Operand → Nat × Value)) ∧
 (∀ (f : Nat × Operand → Nat × Value), ([] : List (Nat × Operand)).map f = []) ∧
 (∀ (l : List Value), [] ++ l = l) ∧
 (∀ (a : Value) l m, (a :: l) ++ m = a :: (l ++ m)) ∧
 (∀ n, natOf none n = some n) ∧
 (∀ k m n, natOf (some (.int k m)) n = if 0 ≤ m then some m.toNat else none) := by
 refine ⟨?_, ?_, ?_, ?_, ?_, ?_, ?_, ?_, ?_, ?_, ?_, ?_, ?_, ?_, ?_, ?_, ?_, ?_, ?_, ?_, ?_, ?_, ?_, ?_, ?_, ?_, ?_, ?_, ?_, ?_, ?_, ?_, ?_, ?_, ?_, ?_, ?_, ?_, ?_, ?_, ?_, ?_, ?_, ?_, ?_, ?_, ?_, ?_, ?_, ?_, ?_, ?_, ?_, ?_, ?_, ?_, ?_, ?_, ?_, ?_, ?_, ?_, ?_, ?_, ?_, ?_, ?_, ?_, ?_, ?_, ?_, ?_, ?_, ?_, ?_, ?_, ?_, ?_, ?_, ?_, ?_, ?_, ?_, ?_, ?_, ?_, ?_, ?_, ?_, ?_, ?_, ?_, ?_, ?_, ?_, ?_⟩
 all_goals (intros; first | rfl | (simp only [abin2, isShift, abin, if_true]; done) | (simp only [zerosOf, List.replicate_succ, List.flatten_cons]; done))
section
variable {P : Program} {M M' M1 M2 : Mem} {v x y : Value} {s : Nat} {cs ds : List Value} {X : List Nat}
theorem New.keep (h : New M M1 v s cs) (f : Fr M1 M2 X) (hn : ∀ b ∈ blkOf v, b ∉ X) : New M M2 v s cs := ⟨h.1.keep f hn, h.2⟩
theorem New.after (h : New M1 M2 v s cs) (f : Fr M M1 X) : New M M2 v s cs := ⟨h.1, fun a n c hv hc => Nat.le_trans f.1 (h.2 a n c hv hc)⟩
theorem New.sl (h : New M M1 v s cs) : Sl M1 v s cs := h.1.sl
theorem New.blk (h : New M M1 v s cs) : ∀ b ∈ blkOf v, M.length ≤ b := by
 intro b hb
 unfold blkOf at hb
 split at hb
 ·split at hb
  ·simp at hb
  ·rename_i a n c hc
   simp at hb
   subst hb
   exact h.2 a n c rfl hc
 ·simp at hb
theorem Fr.new (f : Fr M M1 X) (h : New M M1 v s cs) (g : Fr M1 M2 (blkOf v)) : Fr M M2 X := (f.trans g).cut fun b hb hlt => by
 rcases List.mem_append.1 hb with hb | hb
 ·exact hb
 ·have := h.blk b hb; omega
theorem Fr.tr (f : Fr M M1 []) (g : Fr M1 M2 []) : Fr M M2 [] := f.trans g
theorem Fr.tr' (f : Fr M M1 X) (g : Fr M1 M2 []) : Fr M M2 X := (f.trans g).cut fun b hb _ => by simpa using hb
theorem New.nil (M : Mem) {s : Nat} (h : 0 < s) : New M M (.slice none 0 0) s [] := ⟨Own.nil M h, fun a n c h => by cases h⟩
theorem New.row (M : Mem) {s n : Nat} {cs : List Value} (h0 : 0 < s) (hl : n * s = cs.length) (h1 : cs.all Value.oneCell' = true) (hn : n < capLow) : New M (M ++ [.row true s cs]) (.slice (some ⟨M.length, 0, none⟩) n n) s cs :=
 ⟨Own.row h0 (by simp) hl h1 (by unfold capLb; rw [if_pos hn]; exact Nat.le_refl _), fun a n c h _ => by cases h; exact Nat.le_refl _⟩
theorem ints_one (k : IntKind) (xs : List Int) : (ints k xs).all Value.oneCell' = true := by simp [ints, Value.oneCell']
theorem appK.ints {ty e bt : Nat} {k : IntKind} {z : Value} {xs ys : List Int} {C : Value → Mem → Prop} (hu : P.underlying ty = some (.slice e)) (hs : tsz P e = some 1) (hz : tzero P e = some [z]) (hb : tby P e = some bt) (h0 : 0 < bt)
  (hx : Own M x 1 (Ax.ints k xs)) (hy : Sl M y 1 (Ax.ints k ys)) (hl : (xs.length + ys.length) * bt ≤ 140737488355328) (h : ∀ v' M', New M M' v' 1 (Ax.ints k (xs ++ ys)) → Fr M M' (blkOf x) → C v' M') : appK P ty ty x y M C := by
 refine ⟨rfl, e, 1, [z], bt, _, _, hu, hs, hz, rfl, hb, h0, hx, hy, ?_, fun v' M' h1 _ h2 => h v' M' ?_ h2⟩
 ·rw [hx.sl.lnI, hy.lnI]; exact hl
 ·rw [ints_append] at h1; exact h1
theorem appK.elems {ty e bt s : Nat} {z : List Value} {C : Value → Mem → Prop} (hu : P.underlying ty = some (.slice e)) (hs : tsz P e = some s) (hz : tzero P e = some z) (hzl : z.length = s) (hb : tby P e = some bt) (h0 : 0 < bt)
  (hx : Own M x s cs) (hy : Sl M y s ds) (hl : (cs.length + ds.length) * bt ≤ 140737488355328) (h : ∀ v' M', New M M' v' s (cs ++ ds) → Fr M M' (blkOf x) → C v' M') : appK P ty ty x y M C := by
 refine ⟨rfl, e, s, z, bt, _, _, hu, hs, hz, hzl, hb, h0, hx, hy, ?_, fun v' M' h1 _ h2 => h v' M' h1 h2⟩
 have h1 := hx.sl.len
 have h2 := hy.len
 have h3 := hx.sl.sz.1
 refine Nat.le_trans (Nat.mul_le_mul_right bt ?_) hl
 rw [← h1, ← h2]
 exact Nat.add_le_add (Nat.le_mul_of_pos_right _ h3) (Nat.le_mul_of_pos_right _ h3)
theorem take_snocI {xs : List Int} {i : Nat} (h : i < xs.length) : xs.take (i + 1) = xs.take i ++ [xs.getD i 0] := by
 rw [List.take_add_one, List.getElem?_eq_getElem h]; simp [List.getD_eq_getElem?_getD, List.getElem?_eq_getElem h]
end
def setAll : List Value → List (Tmp × Value) → List Value
 | t, [] => t
 | t, (p, v) :: r => setAll (t.set p v) r
theorem LRel.setAll {ι : Inj} : ∀ (ps : List Tmp) {args args' : List Value} {t : List Value} {T : Array Value}, LRel ι args args' → LRel ι t T.toList → LRel ι (Ax.setAll t (ps.zip args)) ((ps.zip args').foldl (fun t (p, v) => t.setIfInBounds p v) T).toList
 | [], _, _, _, _, _, h => h
 | p :: ps, [], _, _, _, ha, h => by cases ha; exact h
 | p :: ps, x :: xs, _, t, T, ha, h => by
  cases ha with
  | cons _ y _ ys h1 h2 => exact LRel.setAll ps h2 (by simpa using h.set p h1)
def roundA (l : Nat) (t : List Value) (ps : Array Tmp) (assign body : Code) (R : Bool → Mem → Prop) : Exit → List Value → Mem → Prop
 | .normal, _, M => M[l]? = some (.loop .busy none t ps assign body) ∧ R true (M.set l (.loop .ready none t ps assign body))
 | .ret, _, M => M[l]? = some (.loop .busy none t ps assign body) ∧ R false (M.set l (.loop .done (some .ret) t ps assign body))
 | .exit id, _, M => M[l]? = some (.loop .busy none t ps assign body) ∧ R false (M.set l (.loop .done (some (.exit id)) t ps assign body))
 | .goto g, _, M => M[l]? = some (.loop .busy none t ps assign body) ∧ R false (M.set l (.loop .done (some (.goto g)) t ps assign body))
 | _, _, _ => False
section
variable {P : Program} {M : Mem} {t : List Value} {ps : Array Tmp} {assign body : Code}
theorem loop_turn {ι : Inj} {N0 : Base} {w : World} {l : Nat} {loc : Loc} {st st' : LoopState} {pd pd' : Option Code} (hm : MRel ι N0 M w) (hM : M[l]? = some (.loop st pd t ps assign body)) (hl : ι l = some loc) :
  ∃ r : Loop, w.heap[loc.g]? = some (.loop r) ∧ r.state = st ∧ r.pending = pd ∧ r.params = ps ∧ r.assign = assign ∧ r.body = body ∧ LRel ι t r.tmps.toList ∧
   MRel ι N0 (M.set l (.loop st' pd' t ps assign body)) (w.putObj loc.g (.loop { r with state := st', pending := pd' })) ∧ Ext ι N0 M w ι (M.set l (.loop st' pd' t ps assign body)) (w.putObj loc.g (.loop { r with state := st', pending := pd' })) := by
 have hB := hm.blk l _ loc hM hl
 have hlt := hB.lt rfl
 obtain ⟨h0, r, h1, ⟨rfl, rfl, rfl, rfl, rfl⟩, h2⟩ := hB
 have ho : ∀ g, g ≠ loc.g → (w.putObj loc.g (.loop { r with state := st', pending := pd' })).heap[g]? = w.heap[g]? := fun g hg => World.putObj_heap_other hg
 refine ⟨r, h1, rfl, rfl, rfl, rfl, rfl, h2, hm.turn hM rfl hl ho (by simp) ⟨h0, _, World.putObj_heap_same hlt.2, ⟨rfl, rfl, rfl, rfl, rfl⟩, h2⟩, Ext.turn hm hM rfl hl ho (by simp) rfl rfl rfl⟩
theorem YieldA.of_round {l : Nat} {args : List Value} {R : Bool → Mem → Prop} (hM : M[l]? = some (.loop .ready none t ps assign body)) (hps : args.length = ps.size) (ht1 : tops assign = false := by rfl) (ht2 : tops body = false := by rfl)
  (h : AW P assign (fun e t1 M1 => e = .normal ∧ M1[l]? = some (.loop .ready none t ps assign body) ∧ AW P body (roundA l t ps assign body R) t1 (M1.set l (.loop .busy none t ps assign body))) (setAll t (ps.toList.zip args)) M) : YieldA P l args M R := by
 intro ι N1 args' w loc hm1 hl ha
 obtain ⟨N0, hN0⟩ : ∃ N0 : Base, N0 = ⟨N1.n, 0⟩ := ⟨_, rfl⟩
 have hn : N0.n = N1.n := by rw [hN0]
 have hd : N0.d = 0 := by rw [hN0]
 have hm : MRel ι N0 M w := hm1.base_of hn
 obtain ⟨r, h1, h2, h3, h4, h5, h6, h7, _⟩ := loop_turn (st' := .ready) (pd' := none) hm hM hl
 subst h4 h5 h6
 refine ⟨_, _, _, _, run_yield h1 (by simpa using ha.length.symm.trans hps), roundIn_of_wpIn (F := Fence.wide) trivial ?_⟩
 have hrel : Rel ι N0 (setAll t (r.params.toList.zip args)) M { tmps := (r.params.zip args'.toArray).foldl (fun tmps (t, a) => tmps.setIfInBounds t a) r.tmps, defers := [] } w := by
  refine ⟨?_, hm, ⟨by omega, trivial⟩⟩
  have := LRel.setAll r.params.toList ha h7
  rw [← Array.foldl_toList, Array.toList_zip]
  exact this
 refine wpIn_mono (h (some loc.g) (by rw [ht1]; simp) ι N0 _ w hrel) ?_
 rintro e a1 w1 ⟨t1, M1, ι1, r1, x1, rfl, hM1, hb⟩
 obtain ⟨q, k1, k2, k3, k4, k5, k6, k7, k8, k9⟩ := loop_turn (st' := .busy) (pd' := none) r1.mem hM1 (x1.inj _ _ hl)
 refine ⟨_, run_beginRound k1 k2, ?_⟩
 have hq : ({ q with state := .busy } : Loop) = { q with state := .busy, pending := none } := by rw [← k3]
 rw [hq]
 refine wpIn_mono (hb (some loc.g) (by rw [ht2]; simp) ι1 N0 a1 _ ⟨r1.tmps, k8, r1.defers.keep k9.below⟩) ?_
 have fin : ∀ (jump : Option Code) (a2 : Act) (w2 : World) (t2 : List Value) (M2 : Mem) (ι2 : Inj), Rel ι2 N0 t2 M2 a2 w2 → Ext ι1 N0 (M1.set l (.loop .busy none t r.params r.assign r.body)) (w1.putObj loc.g (.loop { q with state := .busy, pending := none })) ι2 M2 w2 → M2[l]? = some (.loop .busy none t r.params r.assign r.body) → R jump.isNone (M2.set l (.loop (if jump.isNone then .ready else .done) jump t r.params r.assign r.body)) →
   ∃ v w', (Instr.endRound loc.g jump).run P w2 = .ok v w' ∧ ∃ b M' ι', Ending.returned v = .returned (.bool b) ∧ MRel ι' N1 M' w' ∧ Ext ι N1 M w ι' M' w' ∧ R b M' := by
  intro jump a2 w2 t2 M2 ι2 r2 x2 hM2 hR
  obtain ⟨q2, j1, j2, j3, j4, j5, j6, j7, j8, j9⟩ := loop_turn (st' := if jump.isNone then .ready else .done) (pd' := jump) r2.mem hM2 (x2.inj _ _ (x1.inj _ _ hl))
  exact ⟨_, _, run_endRound jump j1, jump.isNone, _, ι2, rfl, j8.base_of hn.symm, (((x1.trans k9).trans x2).trans j9).base_of hn.symm, hR⟩
 rintro e a2 w2 ⟨t2, M2, ι2, r2, x2, hq2⟩
 cases e with
 | normal => exact fin none a2 w2 t2 M2 ι2 r2 x2 hq2.1 hq2.2
 | ret => exact fin (some .ret) a2 w2 t2 M2 ι2 r2 x2 hq2.1 hq2.2
 | exit id => exact fin (some (.exit id)) a2 w2 t2 M2 ι2 r2 x2 hq2.1 hq2.2
 | goto g => exact fin (some (.goto g)) a2 w2 t2 M2 ι2 r2 x2 hq2.1 hq2.2
 | panic c => exact hq2.elim
 | outgrown => exact hq2.elim
theorem AW.range {g : Operand} {Q : Exit → List Value → Mem → Prop} (hok : okOpd g = true) {gf : FuncId} {capt : List Value} (hg : ev t g = .func (.func gf) #[] ⟨capt⟩)
  (h : CallA P gf (.func (.yield M.length) #[] #[] :: capt) (M ++ [.loop .ready none t ps assign body]) fun v M' => ∃ st pd, M'[M.length]? = some (.loop st pd t ps assign body) ∧ st ≠ .busy ∧
   (match pd with
    | none => Q .normal t (M'.set M.length .dead)
    | some c => tops c = false ∧ AW P c Q t (M'.set M.length .dead))) : AW P (.rangeFunc g ps assign body) Q t M := by
 intro ro hro ι N0 a w r
 obtain rfl : ro = none := hro rfl
 have hrg := Rel.ev r.tmps hok
 rw [hg] at hrg
 generalize hz : a.eval g = z at hrg
 cases hrg with
 | func _ _ _ fs' _ cs' h1 h2 =>
  cases h1
  obtain ⟨⟨fn, c, hf, hb, hnm⟩, hcall⟩ := h
  refine wpIn_rangeFunc ?_
  intro fid _
  obtain ⟨rec, hrec⟩ : ∃ rec : Loop, rec = { state := .ready, pending := none, fn := fid, tmps := a.tmps, params := ps, assign, body, defers := w.heap.size } := ⟨_, rfl⟩
  obtain ⟨w1, hw1⟩ : ∃ w1, w1 = (w.alloc (.deferred (some []))).alloc (.loop rec) := ⟨_, rfl⟩
  let loc : Loc := ⟨w.heap.size + 1, 0, 0, 0⟩
  have hno := r.mem.dom M.length (Nat.le_refl _)
  have hm0 : MRel ι N0 M (w.alloc (.deferred (some []))) := ⟨fun b B l hb hl => (r.mem.blk b B l hb hl).alloc (fun _ _ h => h) r.mem.base, r.mem.dom, r.mem.inj, by have := r.mem.base; simp; omega⟩
  have hheap1 : w1.heap[w.heap.size + 1]? = some (.loop rec) := by
   rw [hw1]
   have := World.alloc_heap_new (w.alloc (.deferred (some []))) (.loop rec)
   rwa [World.size_alloc] at this
  have hmark1 : w1.heap[w.heap.size]? = some (Obj.deferred (some [])) := by
   rw [hw1]
   exact (Below.heap_alloc _ _ _ (by simp)).trans (World.alloc_heap_new w _)
  have hm1 : MRel (ι.upd M.length loc) N0 (M ++ [.loop .ready none t ps assign body]) w1 := by
   rw [hw1]
   refine (hm0.push _).lay (b := M.length) (B := .loop .ready none t ps assign body) (by simp) hno (by simp [loc]) ?_
   refine ⟨?_, rec, ?_, ?_, ?_⟩
   ·have := r.mem.base; show N0.n ≤ w.heap.size + 1; omega
   ·rw [← hw1]; exact hheap1
   ·rw [hrec]; exact ⟨rfl, rfl, rfl, rfl, rfl⟩
   ·rw [hrec]; exact r.tmps.mono (Inj.upd_le hno)
  have hx1 : Ext ι N0 M w (ι.upd M.length loc) (M ++ [.loop .ready none t ps assign body]) w1 := by
   refine ⟨Inj.upd_le hno, fun b hb hbn => ⟨?_, List.getElem?_append_left hb⟩, by simp, ?_⟩
   ·unfold Inj.upd; rw [if_neg (by omega)]; exact hbn
   ·rw [hw1]
    have := r.mem.base
    exact ((Low.refl _ _).alloc this _).alloc (by simp; omega) _
  have hC := hcall (ι.upd M.length loc) N0 (.func (.yield loc.g) #[] #[] :: cs') w1 hm1 (.cons _ _ _ _ (.yield M.length loc (by simp [Inj.upd])) (h2.mono (Inj.upd_le hno)))
  refine ⟨w.heap.size + 1, [{ target := .collected w.heap.size, args := #[] }], w1, { target := .fn (.func gf) ⟨cs'⟩, args := #[.func (.yield (w.heap.size + 1)) #[] #[]] }, w1, gf, (.func (.yield loc.g) #[] #[] :: cs').toArray, w1, ?_, ?_, fun _ _ => trivial, ?_, fun e => by simp [fence, Fence.wide] at e, ?_⟩
  ·rw [hw1, hrec]; exact run_enterLoop_outer _ _ _ _ _
  ·simp only [resolve, hz]
   simp [go_sem]
  ·simp only [invoke, callFunc, Sem.run_bind, Sem.run_pure, Result.andThen_ok, run_program, hf, hb, hnm]
   simp [loc]
  ·refine (callsIn_wide.2 hC : CallsIn Fence.wide _ P gf _ w1 _).mono ?_
   rintro e w3 ⟨v, v', M', ι', rfl, h3, h4, h5, st, pd, h6, h7, h8⟩
   have hl3 : ι' M.length = some loc := h5.inj _ _ (by simp [Inj.upd])
   have hB3 := h4.blk _ _ _ h6 hl3
   obtain ⟨_, q, hq, ⟨rfl, rfl, _, _, _⟩, _⟩ := hB3
   have hother : ∀ k, k ≠ loc.g → (w3.putObj loc.g (.loop { q with state := .exhausted })).heap[k]? = w3.heap[k]? := fun k hk => World.putObj_heap_other hk
   have hx3 := hx1.trans h5
   have hm4 : MRel ι' N0 (M'.set M.length .dead) (w3.putObj loc.g (.loop { q with state := .exhausted })) := h4.turn h6 rfl hl3 hother (by simp) trivial
   have hx4 := hx3.trans (Ext.turn (B' := .dead) (w' := w3.putObj loc.g (.loop { q with state := .exhausted })) h4 h6 rfl hl3 hother (by simp) rfl rfl rfl)
   have hdef : okDefers N0 (w3.putObj loc.g (.loop { q with state := .exhausted })) ({ target := .collected w.heap.size, args := #[] } :: a.defers) := by
    have hold := r.defers.keep hx4.below
    refine ⟨hold.1, ⟨w.heap.size, rfl, r.mem.base, r.defers.1, ?_, ?_⟩, hold.2⟩
    ·refine (hother _ (by simp [loc])).trans (h5.below.mark _ hmark1)
    ·have key : ∀ ds : List Deferred, marksOk N0 w ds → ∀ d' ∈ ds, d' ≠ { target := .collected w.heap.size, args := #[] } := by
      intro ds
      induction ds with
      | nil => intro _ d' hd'; cases hd'
      | cons d ds ih =>
       rintro ⟨⟨k, rfl, _, _, hk, _⟩, hds⟩ d' hd'
       rcases List.mem_cons.1 hd' with rfl | hd'
       ·intro e
        have : k = w.heap.size := by simpa using e
        have := (Array.getElem?_eq_some_iff.1 hk).1
        omega
       ·exact ih hds d' hd'
     exact key _ r.defers.2
   have hr4 : Rel ι' N0 t (M'.set M.length .dead) { a with defers := [{ target := .collected w.heap.size, args := #[] }] ++ a.defers } (w3.putObj loc.g (.loop { q with state := .exhausted })) := ⟨r.tmps.mono hx3.inj, hm4, hdef⟩
   have hend := run_endLoop (P := P) hq h7
   refine ⟨q.pending, _, hend, ?_⟩
   clear hend
   revert hr4 hx4
   generalize w3.putObj loc.g (.loop { q with state := .exhausted }) = w4
   intro hx4 hr4
   revert h8
   generalize q.pending = pd
   intro h8
   cases pd with
   | none => exact ⟨t, _, ι', hr4, hx4, h8⟩
   | some c =>
    exact wpIn_mono (h8.2 none (by rw [h8.1]; simp) ι' N0 _ _ hr4) fun e a2 w2 k => Post.trans hx4 k
end
def FlatR (P : Program) (W : World) (t : TypeId) {α : Type} (enc : α → List Value) (good : α → Prop) : Prop :=
 ∀ (H : Type) (en : TypeId × Value → H) (base : Nat) (spare : Nat → Bool) (held : Bool) (n : Nat) (cs : List Value) (x : DataW H × List MemPlace), DataW.trod en P W base spare held n t cs = some x → ∃ y, good y ∧ cs = enc y
def Reads (P : Program) (W : World) (t : TypeId) (K : Mem → List Value → Prop) : Prop :=
 ∀ (H : Type) (en : TypeId × Value → H) (base : Nat) (held : Bool) (n : Nat) (cs : List Value) (x : DataW H × List MemPlace), DataW.trod en P W base (fun _ => true) held n t cs = some x →
  ∀ ι (N0 : Base) M, N0.n = W.heap.size → MRel ι N0 M W → ∃ ι' X acs, (∀ b l, ι b = some l → ι' b = some l) ∧ MRel ι' N0 (M ++ X) W ∧ LRel ι' acs cs ∧ K (M ++ X) acs
section
variable {P : Program} {W : World} {t e : TypeId}
theorem flat_int {k : IntKind} (ht : P.underlying t = some (.int k)) : FlatR P W t (fun n => [.int k n]) (fun n => (Lit.int k n).wf = true) := by
 intro H en base spare held n cs x h
 obtain ⟨m, rfl, _, hw⟩ := DataW.trod_int ht h
 exact ⟨m, hw, rfl⟩
theorem FlatR.reads {α : Type} {enc : α → List Value} {good : α → Prop} (h : FlatR P W t enc good) (hf : ∀ y, (enc y).all flat = true) : Reads P W t (fun _ acs => ∃ y, good y ∧ acs = enc y) := by
 intro H en base held n cs x hx ι N0 M _ hm
 obtain ⟨y, hy, rfl⟩ := h H en base _ held n cs x hx
 exact ⟨ι, [], _, fun _ _ h => h, by simpa using hm, LRel.of_flat (hf y), y, hy, rfl⟩
theorem flatMap_get {α : Type} {enc : α → List Value} {sz : Nat} (hl : ∀ y, (enc y).length = sz) : ∀ (xs : List α) (i r : Nat), r < sz → (xs.flatMap enc)[i * sz + r]? = (xs[i]?).bind fun y => (enc y)[r]?
 | [], i, r, _ => by simp
 | x :: xs, 0, r, h => by
  simp only [List.flatMap_cons, Nat.zero_mul, Nat.zero_add, List.getElem?_cons_zero, Option.bind_some]
  exact List.getElem?_append_left (by rw [hl]; exact h)
 | x :: xs, i + 1, r, h => by
  simp only [List.flatMap_cons, List.getElem?_cons_succ]
  rw [List.getElem?_append_right (by rw [hl, Nat.add_mul]; omega), ← flatMap_get hl xs i r h]
  congr 1
  rw [hl, Nat.add_mul]
  omega
theorem flatMap_length {α : Type} {enc : α → List Value} {sz : Nat} (hl : ∀ y, (enc y).length = sz) (xs : List α) : (xs.flatMap enc).length = xs.length * sz := by
 induction xs with
 | nil => simp
 | cons x xs ih => rw [List.flatMap_cons, List.length_append, hl, ih, List.length_cons, Nat.add_mul]; omega
theorem choose_xs {α : Type} {p : Nat → α → Prop} (len : Nat) (h : ∀ i, i < len → ∃ y, p i y) : ∃ xs : List α, xs.length = len ∧ ∀ i, i < len → ∃ y, xs[i]? = some y ∧ p i y := by
 induction len with
 | zero => exact ⟨[], rfl, fun i hi => by omega⟩
 | succ len ih =>
  obtain ⟨xs, hxl, hxs⟩ := ih (fun i hi => h i (by omega))
  obtain ⟨y, hy⟩ := h len (by omega)
  refine ⟨xs ++ [y], by simp [hxl], fun i hi => ?_⟩
  rcases Nat.lt_or_ge i len with hi' | hi'
  ·obtain ⟨z, hz, hr⟩ := hxs i hi'
   exact ⟨z, by rw [List.getElem?_append_left (by omega)]; exact hz, hr⟩
  ·obtain rfl : i = len := by omega
   exact ⟨y, by rw [← hxl]; simp, hy⟩
theorem MRel.come {ι : Inj} {N0 : Base} {M : Mem} {w : World} (hm : MRel ι N0 M w) {B : Blk} {l : Loc} (hb : B.ours = false) (hB : BRel (ι.upd M.length l) N0 w l B) : MRel (ι.upd M.length l) N0 (M ++ [B]) w := by
 have hno := hm.dom M.length (Nat.le_refl _)
 have hi := Inj.upd_le (l := l) hno
 have hget : ∀ b X, (M ++ [B])[b]? = some X → (b = M.length ∧ X = B) ∨ (b < M.length ∧ M[b]? = some X) := by
  intro b X hx
  rcases Nat.lt_or_ge b M.length with h | h
  ·exact .inr ⟨h, by rwa [List.getElem?_append_left h] at hx⟩
  ·rw [List.getElem?_append_right h] at hx
   have h0 : b - M.length = 0 := by
    have := (List.getElem?_eq_some_iff.1 hx).1
    simp at this
    omega
   rw [h0] at hx
   exact .inl ⟨by omega, by simpa using hx.symm⟩
 have hlo : ∀ b y, b < M.length → ι.upd M.length l b = some y → ι b = some y := by
  intro b y hb' hy
  unfold Inj.upd at hy
  rwa [if_neg (by omega)] at hy
 refine ⟨fun b X lx hx hl => ?_, fun b hb' => ?_, ?_, hm.base⟩
 ·rcases hget b X hx with ⟨rfl, rfl⟩ | ⟨h1, h2⟩
  ·obtain rfl : l = lx := by simpa [Inj.upd] using hl
   exact hB
  ·exact (hm.blk b X lx h2 (hlo b lx h1 hl)).keep hi fun _ => rfl
 ·simp at hb'
  unfold Inj.upd
  rw [if_neg (by omega)]
  exact hm.dom b (by omega)
 ·intro b c X Y lx ly hx hy ox oy hlx hly he
  rcases hget b X hx with ⟨_, rfl⟩ | ⟨h1, h2⟩
  ·rw [hb] at ox; cases ox
  ·rcases hget c Y hy with ⟨_, rfl⟩ | ⟨h3, h4⟩
   ·rw [hb] at oy; cases oy
   ·exact hm.inj b c X Y lx ly h2 h4 ox oy (hlo b lx h1 hlx) (hlo c ly h3 hly) he
theorem MRel.none (N0 : Base) (w : World) (h : N0.n ≤ w.heap.size) : MRel (fun _ => none) N0 [] w :=
 ⟨fun _ _ _ hb => by simp at hb, fun _ _ => rfl, fun _ _ _ _ _ _ hb => by simp at hb, h⟩
theorem reads_slice {sz : Nat} {α : Type} {enc : α → List Value} {good : α → Prop} (ht : P.underlying t = some (.slice e)) (he : P.cellsOf e = sz) (h0 : 0 < sz) (hf : FlatR P W e enc good)
  (hfl : ∀ y, (enc y).all flat = true) (h1 : ∀ y, (enc y).all Value.oneCell' = true) (hl : ∀ y, (enc y).length = sz) :
  Reads P W t (fun M acs => ∃ (v : Value) (xs : List α), acs = [v] ∧ (∀ x ∈ xs, good x) ∧ xs.length ≤ maxLen ∧ Sl M v sz (xs.flatMap enc)) := by
 intro H en base held n cs x hx ι N0 M hN hm
 rcases Go.Deep.open_slice ht hx with ⟨rfl, _⟩ | ⟨a, len, cap, m, n', D, Pl, rfl, hb, hlen, hmax, hmm, _, hel⟩
 ·exact ⟨ι, [], [.slice none 0 0], fun _ _ h => h, by simpa using hm, .cons _ _ _ _ .sliceNil .nil, _, [], rfl, by simp, by simp, Sl.nil _ h0⟩
 ·have hm' : m = cap := by simpa using hmm
  subst hm'
  rw [he] at hel
  have hno := hm.dom M.length (Nat.le_refl _)
  rcases Nat.eq_zero_or_pos m with hz | hpos
  ·subst hz
   obtain rfl : len = 0 := by omega
   refine ⟨ι.upd M.length ⟨0, 0, 0, 0⟩, [.dead], [.slice (some ⟨M.length, 0, Option.none⟩) 0 0], Inj.upd_le hno, hm.come rfl trivial, .cons _ _ _ _ (.slice M.length 0 0 0 0 ⟨0, 0, 0, 0⟩ a (by simp [Inj.upd]) (Nat.le_refl _) (.inl rfl) (.inl rfl)) .nil, _, [], rfl, by simp, by simp, ?_⟩
   exact ⟨.inr ⟨_, _, _, _, rfl, by simp, Nat.zero_le _⟩, by simp [sln], ⟨h0, fun a n c B hv hc => by cases hv; exact absurd rfl hc⟩, rfl, fun h => absurd rfl h⟩
  ·have hcell : ∀ i, i < m → ∃ y : α, good y ∧ ∀ r, r < sz → W.cell? (a.add (i * sz + r)) = (enc y)[r]? := by
    intro i hi
    obtain ⟨c, hc, htr⟩ := hel i hi
    obtain ⟨y, hy, rfl⟩ := hf H en base _ held n' c _ htr
    obtain ⟨_, _, h3⟩ := World.cells?_some hc
    refine ⟨y, hy, fun r hr => ?_⟩
    have := h3 r hr
    rw [Go.Deep.add_add] at this
    exact this
   have hspot : a.spot = Option.none ∧ ∃ cc e f, W.heap[a.block]? = some (.cells cc e f) := by
    obtain ⟨y, _, hy⟩ := hcell 0 hpos
    have h3 := hy 0 h0
    obtain ⟨u, hu⟩ : ∃ u, (enc y)[0]? = some u := ⟨_, List.getElem?_eq_getElem (by rw [hl]; exact h0)⟩
    rw [hu] at h3
    simp only [Nat.zero_mul, Nat.add_zero, Addr.add, if_true] at h3
    unfold World.cell? at h3
    cases ho : W.heap[a.block]? with
    | none => rw [ho] at h3; cases h3
    | some o =>
     rw [ho] at h3
     cases o with
     | cells cc e f =>
      simp only at h3
      by_cases hs : a.spot.isSome = true
      ·rw [if_pos hs] at h3; cases h3
      ·exact ⟨by cases hs' : a.spot with | none => rfl | some z => rw [hs'] at hs; exact absurd rfl hs, cc, e, f, rfl⟩
     | _ => cases h3
   obtain ⟨hsp, cc, et, f, hheap⟩ := hspot
   have hadd : ∀ k, W.cell? (a.add k) = cc[a.off + k]? := by
    intro k
    unfold World.cell? Addr.add
    by_cases hk : k = 0
    ·subst hk; simp [hheap, hsp]
    ·simp [hk, hheap]
   obtain ⟨xs, hxl, hxs⟩ := choose_xs (p := fun i (y : α) => good y ∧ ∀ r, r < sz → W.cell? (a.add (i * sz + r)) = (enc y)[r]?) len fun i hi => hcell i (by omega)
   have hfl' : (xs.flatMap enc).all flat = true := by
    rw [List.all_eq_true]
    intro u hu
    obtain ⟨y, _, hy⟩ := List.mem_flatMap.1 hu
    exact List.all_eq_true.1 (hfl y) u hy
   have hon : (xs.flatMap enc).all Value.oneCell' = true := by
    rw [List.all_eq_true]
    intro u hu
    obtain ⟨y, _, hy⟩ := List.mem_flatMap.1 hu
    exact List.all_eq_true.1 (h1 y) u hy
   have hlt : a.block < N0.n := by rw [hN]; exact (Array.getElem?_eq_some_iff.1 hheap).1
   let l : Loc := ⟨a.block, a.off, a.off + m * sz, sz⟩
   obtain ⟨c, hc1, hc2, hc3⟩ : ∃ c, capOk c m ∧ len ≤ capLb c ∧ c ≠ 0 := by
    by_cases hlow : m < capLow
    ·exact ⟨m, .inl rfl, by unfold capLb; rw [if_pos hlow]; exact hlen, by omega⟩
    ·exact ⟨capLow + m, .inr ⟨by omega, Nat.le_refl _⟩, by unfold capLb; rw [if_neg (by omega)]; omega, by omega⟩
   refine ⟨ι.upd M.length l, [.row false sz (xs.flatMap enc)], [.slice (some ⟨M.length, 0, Option.none⟩) len c], Inj.upd_le hno, hm.come rfl ⟨hlt, rfl, cc, et, f, hheap, fun j u hj => ?_⟩, .cons _ _ _ _ (.slice M.length 0 len c m l a (by simp [Inj.upd]) hlen hc1 (.inr ⟨?_, ?_⟩)) .nil, _, xs, rfl, ?_, by omega, ?_⟩
   ·have hj' := (List.getElem?_eq_some_iff.1 hj).1
    rw [flatMap_length hl] at hj'
    have hdm : j / sz * sz + j % sz = j := by rw [Nat.mul_comm]; exact Nat.div_add_mod j sz
    have hr : j % sz < sz := Nat.mod_lt _ h0
    have hi : j / sz < xs.length := (Nat.div_lt_iff_lt_mul h0).2 hj'
    obtain ⟨y, hy1, _, hy2⟩ := hxs (j / sz) (by omega)
    have h3 := hy2 (j % sz) hr
    rw [hdm, hadd] at h3
    have h4 := flatMap_get hl xs (j / sz) (j % sz) hr
    rw [hdm, hy1, Option.bind_some, hj] at h4
    refine ⟨u, h3.trans h4.symm, VRel.of_flat ?_⟩
    exact List.all_eq_true.1 hfl' u (List.mem_of_getElem? hj)
   ·obtain ⟨ab, ao, a3⟩ := a
    simp only at hsp
    subst hsp
    rfl
   ·show a.off + 0 + m * sz ≤ a.off + m * sz
    omega
   ·intro y hy
    obtain ⟨i, hi, rfl⟩ := List.mem_iff_getElem.1 hy
    obtain ⟨z, hz, hg, _⟩ := hxs i (by omega)
    rw [List.getElem?_eq_getElem hi] at hz
    injection hz with hz
    exact hz ▸ hg
   ·refine ⟨.inr ⟨_, _, _, _, rfl, by simp, hc2⟩, ?_, ⟨h0, ?_⟩, hon, fun _ => ?_⟩
    ·rw [flatMap_length hl, hxl]; rfl
    ·intro a' n' c' B hv _ hB
     cases hv
     simp at hB
     subst hB
     rfl
    ·unfold cellsM
     have hg : (M ++ [Blk.row false sz (xs.flatMap enc)])[M.length]? = some (.row false sz (xs.flatMap enc)) := by simp
     show ((M ++ [Blk.row false sz (xs.flatMap enc)])[M.length]?).bind _ = _
     rw [hg, Option.bind_some]
     simp only [Blk.cells, sof, Nat.zero_add, Nat.le_refl, if_true, List.drop_zero, List.take_length]
theorem Fr.app (M X : Mem) : Fr M (M ++ X) [] := ⟨by simp, fun b hb _ => List.getElem?_append_left hb⟩
theorem Sl.app {M : Mem} {v : Value} {s : Nat} {cs : List Value} (h : Sl M v s cs) (X : Mem) : Sl (M ++ X) v s cs := h.keep (Fr.app M X) (by simp)
theorem LRel.single {ι : Inj} {v v' : Value} (h : LRel ι [v] [v']) : VRel ι v v' := by cases h with | cons _ _ _ _ h _ => exact h
end
section
variable {P : Program} {M : Mem} {t : List Value} {Q : Exit → List Value → Mem → Prop} {next : List Value → Mem → Prop}
theorem AW.join {c : Code} (J : List Value → Mem → Prop) (h1 : AW P c (thenA J Q) t M) (h2 : ∀ t' M', J t' M' → next t' M') : AW P c (thenA next Q) t M :=
 h1.mono fun e t' M' h => by cases e <;> first | exact h2 _ _ h | exact h
theorem AW.joinF {c : Code} (js : List Nat) (J : (Nat → Value) → Mem → Prop) (h1 : AW P c (thenA (fun t' M' => t' = over t js (fun j => t'.getD j undef) ∧ J (fun j => t'.getD j undef) M') Q) t M)
  (h2 : ∀ f M', J f M' → next (over t js f) M') : AW P c (thenA next Q) t M :=
 AW.join _ h1 fun t' M' ⟨e, h⟩ => by rw [e]; exact h2 _ _ h
theorem AW.joinL {a b : Code} (js : List Nat) (J : (Nat → Value) → Mem → Prop) (h1 : AW P a (thenA (AW P b (thenA (fun t' M' => t' = over t js (fun j => t'.getD j undef) ∧ J (fun j => t'.getD j undef) M') Q)) (thenA (fun t' M' => t' = over t js (fun j => t'.getD j undef) ∧ J (fun j => t'.getD j undef) M') Q)) t M)
  (h2 : ∀ f M', J f M' → next (over t js f) M') : AW P a (thenA (AW P b (thenA next Q)) (thenA next Q)) t M := by
 refine h1.mono fun e t' M' h => ?_
 cases e with
 | normal => exact AW.join _ h fun t2 M2 ⟨e, h⟩ => by rw [e]; exact h2 _ _ h
 | _ => exact h
theorem AW.joinQ {c : Code} (js : List Nat) (J : (Nat → Value) → Mem → Prop) (h1 : AW P c (thenA (fun t' M' => t' = over t js (fun j => t'.getD j undef) ∧ J (fun j => t'.getD j undef) M') Q) t M)
  (h2 : ∀ f M', J f M' → Q .normal (over t js f) M') : AW P c Q t M :=
 h1.mono fun e t' M' h => by cases e <;> first | (obtain ⟨e, h⟩ := h; rw [e]; exact h2 _ _ h) | exact h
theorem AW.loopX {c : Code} (id : Nat) (js : List Nat) (J : Nat → (Nat → Value) → Mem → Prop) (E : (Nat → Value) → Mem → Prop) (n : Nat) (h0 : J n (fun j => t.getD j undef) M)
  (round : ∀ n f M', J n f M' → AW P c (thenA (fun t' M'' => t' = over t js (fun j => t'.getD j undef) ∧ ∃ m, m < n ∧ J m (fun j => t'.getD j undef) M'') (blockA id (thenA (fun t' M'' => t' = over t js (fun j => t'.getD j undef) ∧ E (fun j => t'.getD j undef) M'') Q))) (over t js f) M')
  (h2 : ∀ f M', E f M' → Q (.exit id) (over t js f) M') : AW P (.loop c) Q t M :=
 AW.loopF js J n h0 fun n f M' hJ => (round n f M' hJ).mono fun e t' M'' h => by
  cases e with
  | exit id' =>
   by_cases hid : id' = id
   ·subst hid
    have h : blockA id' _ (.exit id') t' M'' := h
    simp only [blockA, if_true, thenA] at h
    obtain ⟨e, h⟩ := h
    show Q (.exit id') t' M''
    rw [e]; exact h2 _ _ h
   ·have h : blockA id _ (.exit id') t' M'' := h
    simp only [blockA, hid, if_false] at h
    exact h
  | _ => exact h
end
def AH (P : Program) (ops : Array Oper) (dst : Option Tmp) (op : Op) (type : TypeId) (pos : String) (after : Array Edge) (guard : Option (Nat × Bool)) (i : Nat) (todo done : List Nat) (Ls : List (Nat × LP)) (K : List Value → Mem → Prop) (t : List Value) (M : Mem) : Prop :=
 ops[i]? = some ⟨dst, op, type, pos, after, guard⟩ → ADL P ops (i :: todo) done Ls K t M
section
variable {P : Program} {ops : Array Oper} {todo done : List Nat} {Ls : List (Nat × LP)} {K : List Value → Mem → Prop} {t : List Value} {M : Mem} {Q : Exit → List Value → Mem → Prop}
variable {i : Nat} {dst : Option Tmp} {type : TypeId} {pos : String} {after : Array Edge} {op : Op} {guard : Option (Nat × Bool)}
theorem ADL.hd (ho : ops[i]? = some ⟨dst, op, type, pos, after, guard⟩) (h : AH P ops dst op type pos after guard i todo done Ls K t M) : ADL P ops (i :: todo) done Ls K t M := h ho
theorem AH.pu (he : isEff op = false) (hok : okOpds ⟨dst, op, type, pos, after, none⟩ = true) (h : ∃ v, apure P (ev t) op = some v ∧ ADL P ops todo (i :: done) Ls K (putT t dst v) M) : AH P ops dst op type pos after none i todo done Ls K t M := fun ho => ADL.pu ho he hok h
theorem AH.ld {ty : TypeId} {x : Operand} (hok : okOpd x = true) (h : ptrK (ev t x) fun b j => ∃ v, aload P ty M b j = some v ∧ ADL P ops todo (i :: done) (Ls ++ [(i, LP.load P ty b j v)]) K (putT t dst v) M) : AH P ops dst (.load ty x) type pos after none i todo done Ls K t M := fun ho => ADL.ld ho hok h
theorem AH.bx {ty : TypeId} {x : Operand} (hok : okOpd x = true) (h : ADL P ops todo (i :: done) Ls K (putT t dst (.pointer (some ⟨M.length, 0, none⟩))) (M ++ [.box (cl (ev t x))])) : AH P ops dst (.box ty x) type pos after none i todo done Ls K t M := fun ho => ADL.bx ho hok h
theorem AH.al {ty : TypeId} (h : ∃ z, tzero P ty = some z ∧ ADL P ops todo (i :: done) Ls K (putT t dst (.pointer (some ⟨M.length, 0, none⟩))) (M ++ [.box z])) : AH P ops dst (.alloc ty) type pos after none i todo done Ls K t M := fun ho => ADL.al ho h
theorem AH.lt {ty : TypeId} {len : Nat} {parts : Array (Nat × Operand)} (hok : okOpds ⟨dst, .buildSlice ty len parts, type, pos, after, none⟩ = true) (h : ∃ s cs, alit P ty len (parts.toList.map fun p => (p.1, ev t p.2)) = some (s, cs) ∧ ADL P ops todo (i :: done) Ls K (putT t dst (.slice (some ⟨M.length, 0, none⟩) len len)) (M ++ [.row true s cs])) : AH P ops dst (.buildSlice ty len parts) type pos after none i todo done Ls K t M := fun ho => ADL.lt ho hok h
theorem AH.ca {f : Operand} {args : Array Operand} {tys : Array TypeId} (hok : okOpds ⟨dst, .call { callee := .value f, args := args, argTypes := tys }, type, pos, after, none⟩ = true)
  (h : fnK (ev t f) fun f first capt => CallA P f (first ++ args.toList.map (ev t) ++ capt) M fun v M' => Fr M M' [] ∧ ADL P ops todo (i :: done) Ls K (putT t dst v) M') : AH P ops dst (.call { callee := .value f, args := args, argTypes := tys }) type pos after none i todo done Ls K t M := fun ho => ADL.ca ho hok h
theorem AH.stN {ty : TypeId} {x y : Operand} (hok : okOpd x = true) (hok' : okOpd y = true) (hL : (Ls.map Prod.fst).all (fun x => bef ops x i) = true) (h : ptrK (ev t x) fun b j => ∃ B, M[b]? = some B ∧ B.ours = true ∧ tsz P ty = some (cl (ev t y)).length ∧ 0 < (cl (ev t y)).length ∧ (cl (ev t y)).all Value.oneCell' = true ∧ j + (cl (ev t y)).length ≤ B.cells.length ∧
  ADL P ops todo (i :: done) [] K (putT t dst undef) (M.set b (B.put (spl B.cells j (cl (ev t y)))))) : AH P ops dst (.store ty x y) type pos after none i todo done Ls K t M := fun ho => ADL.stN ho hok hok' hL h
theorem AH.caN {f : Operand} {args : Array Operand} {tys : Array TypeId} (hok : okOpds ⟨dst, .call { callee := .value f, args := args, argTypes := tys }, type, pos, after, none⟩ = true) (hL : (Ls.map Prod.fst).all (fun x => bef ops x i) = true)
  (h : fnK (ev t f) fun f first capt => CallA P f (first ++ args.toList.map (ev t) ++ capt) M fun v M' => ADL P ops todo (i :: done) [] K (putT t dst v) M') : AH P ops dst (.call { callee := .value f, args := args, argTypes := tys }) type pos after none i todo done Ls K t M := fun ho => ADL.caN ho hok hL h
theorem AH.apN {ty ty' : TypeId} {x y : Operand} (hok : okOpd x = true) (hok' : okOpd y = true) (hL : (Ls.map Prod.fst).all (fun x => bef ops x i) = true)
  (h : appK P ty ty' (ev t x) (ev t y) M fun v' M' => ADL P ops todo (i :: done) [] K (putT t dst v') M') : AH P ops dst (.call { callee := .builtin .append, args := ⟨[x, y]⟩, argTypes := ⟨[ty, ty']⟩ }) type pos after none i todo done Ls K t M := fun ho => ADL.apN ho hok hok' hL h
theorem AH.slW {ty : TypeId} {x : Operand} {lo hi mx : Option Operand} (ht : isSlT P ty = true) (hok : okOpds ⟨dst, .slice ty x lo hi mx, type, pos, after, none⟩ = true)
  (h : ∃ e s v, P.underlying ty = some (.slice e) ∧ tsz P e = some s ∧ szOk M (ev t x) s ∧ (∀ b ∈ blkOf (ev t x), b < M.length) ∧ aslice (ev t x) s (lo.map (ev t)) (hi.map (ev t)) (mx.map (ev t)) = some v ∧ ADL P ops todo (i :: done) (Ls ++ [(i, LP.size (ev t x) s)]) K (putT t dst v) M) : AH P ops dst (.slice ty x lo hi mx) type pos after none i todo done Ls K t M := fun ho => ADL.slW ho ht hok h
theorem AH.guF {j : Nat} {want b : Bool} (hy : yieldA ops t j = some b) (hb : b = !want) (h : ADL P ops todo (i :: done) Ls K (putT t dst undef) M) : AH P ops dst op type pos after (some (j, want)) i todo done Ls K t M := fun ho => ADL.guF ho hy hb h
theorem AH.guPu {j : Nat} {want b : Bool} (he : isEff op = false) (hy : yieldA ops t j = some b) (hb : b = want) (hok : okOpds ⟨dst, op, type, pos, after, none⟩ = true) (h : ∃ v, apure P (ev t) op = some v ∧ ADL P ops todo (i :: done) Ls K (putT t dst v) M) : AH P ops dst op type pos after (some (j, want)) i todo done Ls K t M := fun ho => ADL.guPu ho he hy hb hok h
theorem AH.guLd {ty : TypeId} {x : Operand} {j : Nat} {want b : Bool} (hy : yieldA ops t j = some b) (hb : b = want) (hok : okOpd x = true) (h : ptrK (ev t x) fun b j => ∃ v, aload P ty M b j = some v ∧ ADL P ops todo (i :: done) (Ls ++ [(i, LP.load P ty b j v)]) K (putT t dst v) M) : AH P ops dst (.load ty x) type pos after (some (j, want)) i todo done Ls K t M := fun ho => ADL.guLd ho hy hb hok h
theorem AH.guCa {f : Operand} {args : Array Operand} {tys : Array TypeId} {j : Nat} {want b : Bool} (hy : yieldA ops t j = some b) (hb : b = want) (hok : okOpds ⟨dst, .call { callee := .value f, args := args, argTypes := tys }, type, pos, after, none⟩ = true)
  (h : fnK (ev t f) fun f first capt => CallA P f (first ++ args.toList.map (ev t) ++ capt) M fun v M' => Fr M M' [] ∧ ADL P ops todo (i :: done) Ls K (putT t dst v) M') : AH P ops dst (.call { callee := .value f, args := args, argTypes := tys }) type pos after (some (j, want)) i todo done Ls K t M := fun ho => ADL.guCa ho hy hb hok h
end
theorem tn_sub1 {i : Nat} (h : 1 ≤ i) : ((i : Int) - 1).toNat = i - 1 := by omega
theorem tn_add (i k : Nat) : ((i : Int) + (k : Int)).toNat = i + k := by omega
theorem fdiv_in {a b : Int} (h : 0 ≤ b) : a.fdiv b = a / b := Int.fdiv_eq_ediv_of_nonneg a h
theorem flat_one {v : Value} (h : flat v = true) : Value.oneCell' v = true := by
 unfold flat at h
 split at h <;> first | rfl | cases h
theorem zeros_one {z : List Value} (h : z.all flat = true) (n : Nat) : (zerosOf z n).all Value.oneCell' = true :=
 List.all_eq_true.2 fun v hv => flat_one (List.all_eq_true.1 (zerosOf_flat h n) v hv)
section
variable {P : Program} {o : Oper} {ρ : Operand → Value} {v : Value} {M : Mem} {K : Value → Mem → Prop}
theorem AOp.clear {t e : TypeId} {x : Operand} (ho : o.op = .call { callee := .builtin .clear, args := #[x], argTypes := #[t] }) (hu : P.underlying t = some (.slice e)) {z : List Value} (hz : tzero P e = some z) (h0 : 0 < z.length)
  {b off n c : Nat} (hx : ρ x = .slice (some ⟨b, off, none⟩) n c) {B : Blk} (hB : M[b]? = some B) (hour : B.ours = true) (hsz : B.esz = z.length) (hle : off + n * z.length ≤ B.cells.length) (hk : K (.tuple ⟨[]⟩) (M.set b (B.put (spl B.cells off (zerosOf z n))))) : AOp P o ρ M K := by
 intro ι N0 a w KC QC hor hm hc
 have hrx := hor x (by rw [ho]; simp [Op.operands, Call.operands])
 rw [hx] at hrx
 have hexec : ∀ w', (Builtin.clear_ #[t] o.type #[a.eval x]).run P w = .ok (.tuple #[]) w' → (execOp a.eval o).run P w = .ok (.value (.tuple #[])) w' := by
  intro w' hr
  simp [execOp, ho, resolve, invoke, builtin, hr]
 generalize hy : a.eval x = y at hrx hexec
 cases hrx with
 | slice _ _ _ _ cap' l a' hl hlen hcap ha =>
  by_cases hn : n = 0
  ·subst hn
   have hrun : (Builtin.clear_ #[t] o.type #[.slice (some a') 0 cap']).run P w = .ok (.tuple #[]) w := by
    simp [Builtin.clear_, run_underlying hu]
   unfold Oper.wp
   rw [hexec w hrun]
   have hsame : M.set b (B.put (spl B.cells off (zerosOf z 0))) = M := by
    have e1 : spl B.cells off (zerosOf z 0) = B.cells := by simp [spl, zerosOf]
    rw [e1]
    have e2 : B.put B.cells = B := by cases B <;> rfl
    rw [e2]
    apply List.ext_getElem?
    intro i
    by_cases e : b = i
    ·subst e; rw [List.getElem?_set_self (List.getElem?_eq_some_iff.1 hB).1, hB]
    ·rw [List.getElem?_set_ne e]
   rw [hsame] at hk
   exact hc _ _ _ ι _ (.tuple _ _ .nil) hm (Ext.refl _ _ _ _) hk
  ·have ha2 := ha.resolve_left (by omega)
   obtain ⟨rfl, hlim⟩ := ha2
   obtain ⟨zv, hz1, hz2⟩ := run_zero hz w
   have hzs : zv.cells.size = z.length := by rw [← hz1]; simp
   have hzl := zerosOf_length z n
   have hpos : 0 < n * z.length := Nat.mul_pos (by omega) h0
   have hne : zerosOf z n ≠ [] := by intro e; rw [e] at hzl; simp at hzl; omega
   have hfl := zerosOf_flat (zero_flat hz) n
   obtain ⟨cc, e', hg, hle', hB'⟩ := (hm.blk b B l hB hl).stored hour hne (by rw [hzl]; exact hle) (LRel.of_flat (ι := ι) hfl)
   have hst := run_storeCells_at P l.g (l.base + off) e' (zerosOf z n) 0 cc w hg (by simpa using hle') (fun u hu => List.all_eq_true.1 (zeros_one (zero_flat hz) n) u hu)
   simp only [Nat.add_zero] at hst
   have hzc : (Builtin.zeroCells zv.cells n).toList = zerosOf z n := by
    unfold Builtin.zeroCells
    rw [zeros_eq (by simp) (by omega), hz1, Nat.mul_div_cancel _ (by omega)]
   have hrun : (Builtin.clear_ #[t] o.type #[.slice (some ⟨l.g, l.base + off, none⟩) n cap']).run P w = .ok (.tuple #[]) (w.setRow l.g (cc.toList.take (l.base + off) ++ zerosOf z n ++ cc.toList.drop (l.base + off + (zerosOf z n).length)).toArray) := by
    obtain ⟨n', rfl⟩ : ∃ n', n = n' + 1 := ⟨n - 1, by omega⟩
    simp only [Builtin.clear_, List.getElem?_toArray, List.getElem?_cons_zero, Sem.run_bind, run_underlying hu, Result.andThen_ok, hz2, hzc, hst, Sem.run_pure]
   unfold Oper.wp
   rw [hexec _ hrun]
   have hw : ∀ g, g ≠ l.g → (w.setRow l.g (cc.toList.take (l.base + off) ++ zerosOf z n ++ cc.toList.drop (l.base + off + (zerosOf z n).length)).toArray).heap[g]? = w.heap[g]? := fun g hg => setRow_other w l.g g _ hg
   exact hc _ _ _ ι _ (.tuple _ _ .nil) (hm.turn hB hour hl hw (by simp) hB') (Ext.turn hm hB hour hl hw (by simp) rfl rfl rfl) hk
end
def clrK (P : Program) (ty : TypeId) (v : Value) (M : Mem) (C : Mem → Prop) : Prop :=
 ∃ b off n c e z B, v = .slice (some ⟨b, off, none⟩) n c ∧ P.underlying ty = some (.slice e) ∧ tzero P e = some z ∧ 0 < z.length ∧ M[b]? = some B ∧ B.ours = true ∧ B.esz = z.length ∧ off + n * z.length ≤ B.cells.length ∧ C (M.set b (B.put (spl B.cells off (zerosOf z n))))
section
variable {P : Program} {ops : Array Oper} {rest : List Oper} {K : List Value → Mem → Prop} {t : List Value} {M : Mem} {dst : Option Tmp} {type : TypeId} {pos : String} {after : Array Edge}
theorem AL.clr {ty : TypeId} {x : Operand} (hok : okOpd x = true) (h : clrK P ty (ev t x) M fun M' => AL P ops rest K (putT t dst (.tuple ⟨[]⟩)) M') : AL P ops (⟨dst, .call { callee := .builtin .clear, args := ⟨[x]⟩, argTypes := ⟨[ty]⟩ }, type, pos, after, none⟩ :: rest) K t M := by
 obtain ⟨b, off, n, c, e, z, B, hx, hu, hz, h0, hB, ho, hs, hl, hc⟩ := h
 exact AL.op (by simp [okOpds, calmOp, Op.operands, Call.operands, hok]) rfl (AOp.clear rfl hu hz h0 hx hB ho hs hl hc)
end
theorem Own.at {M : Mem} {b off s n c : Nat} {cs cc : List Value} (h0 : 0 < s) (hb : M[b]? = some (.row true s cc)) (ho : off + cs.length = cc.length) (hd : cc.drop off = cs) (hl : n * s = cs.length) (h1 : cs.all Value.oneCell' = true) (hc : n ≤ capLb c) : Own M (.slice (some ⟨b, off, none⟩) n c) s cs := by
 refine ⟨⟨.inr ⟨b, off, n, c, rfl, (List.getElem?_eq_some_iff.1 hb).1, hc⟩, by simpa [sln] using hl, ⟨h0, fun a n c B hv _ hB => ?_⟩, h1, fun _ => ?_⟩, ?_⟩
 ·cases hv
  rw [hb] at hB
  obtain rfl := Option.some.inj hB
  rfl
 ·simp only [cellsM, sbk, sof, hb, Option.bind_some, Blk.cells, ho, Nat.le_refl, if_true]
  rw [hd, List.take_of_length_le (Nat.le_refl _)]
 ·by_cases h0 : c = 0
  ·subst h0
   rw [capLb_zero] at hc
   obtain rfl : n = 0 := by omega
   exact .inr (.inl ⟨_, rfl⟩)
  ·exact .inr (.inr ⟨b, off, n, c, cc, rfl, h0, hb, ho⟩)
theorem Sl.at {M : Mem} {b off s n c : Nat} {o : Bool} {cs cc : List Value} (h0 : 0 < s) (hb : M[b]? = some (.row o s cc)) (ho : off + cs.length ≤ cc.length) (hd : (cc.drop off).take cs.length = cs) (hl : n * s = cs.length) (h1 : cs.all Value.oneCell' = true) (hc : n ≤ capLb c) : Sl M (.slice (some ⟨b, off, none⟩) n c) s cs := by
 refine ⟨.inr ⟨b, off, n, c, rfl, (List.getElem?_eq_some_iff.1 hb).1, hc⟩, by simpa [sln] using hl, ⟨h0, fun a n c B hv _ hB => ?_⟩, h1, fun _ => ?_⟩
 ·cases hv
  rw [hb] at hB
  obtain rfl := Option.some.inj hB
  rfl
 ·simp only [Ax.cellsM, sbk, sof, hb, Option.bind_some, Blk.cells, ho, if_true]
  rw [hd]
theorem Sl.caps {M : Mem} {v : Value} {s : Nat} {cs : List Value} (h : Sl M v s cs) : sln v ≤ capLb (scp v) := by
 rcases h.base with rfl | ⟨b, off, n, c, rfl, _, h2⟩
 ·exact Nat.zero_le _
 ·exact h2
theorem Sl.blks {M : Mem} {v : Value} {s : Nat} {cs : List Value} (h : Sl M v s cs) : ∀ b ∈ blkOf v, b < M.length := by
 rcases h.base with rfl | ⟨b, off, n, c, rfl, h1, _⟩
 ·intro b hb; cases hb
 ·intro x hx
  by_cases h0 : c = 0
  ·subst h0; cases hx
  ·have e : blkOf (.slice (some ⟨b, off, none⟩) n c) = [b] := by show (if c = 0 then [] else [b]) = [b]; rw [if_neg h0]
   rw [e, List.mem_singleton] at hx
   omega
theorem aslice_from {b off n c s k : Nat} (h : k ≤ n) : aslice (.slice (some ⟨b, off, none⟩) n c) s (some (.int .i64 (k : Int))) none none = some (.slice (some ⟨b, off + k * s, none⟩) (n - k) (capSub c k)) := by
 simp [aslice, natOf, isSl, sln, scp, subsl, h]
theorem aslice_to {b off n c s k : Nat} (h : k ≤ capLb c) : aslice (.slice (some ⟨b, off, none⟩) n c) s none (some (.int .i64 (k : Int))) none = some (.slice (some ⟨b, off, none⟩) k (capSub c 0)) := by
 simp [aslice, natOf, isSl, scp, subsl, h]
theorem capSub_zero (c : Nat) : capSub c 0 = c := by unfold capSub; split <;> omega
theorem capSub_lb {c k n : Nat} (h : k + n ≤ capLb c) : n ≤ capLb (capSub c k) := by
 unfold capLb capSub at *
 split at h <;> rename_i h1
 ·rw [if_pos h1, if_pos (by omega)]; omega
 ·rw [if_neg h1, if_neg (by omega)]; omega
class Stp (g : Prop) (n : outParam Prop) : Prop where
 imp : n → g
theorem st {g n : Prop} [h : Stp g n] (k : n) : g := h.imp k
section
variable {P : Program} {ops : Array Oper} {Ls : List (Nat × LP)} {rest : List Oper} {K : List Value → Mem → Prop} {Q : Exit → List Value → Mem → Prop} {t : List Value} {M : Mem} {next : List Value → Mem → Prop} {done : List Nat} {id : Nat}
instance {x y : Code} : Stp (AW P (.seq x y) Q t M) (AW P x (thenA (AW P y Q) Q) t M) := ⟨AW.seq⟩
instance {c : Code} : Stp (AW P (.block id c) Q t M) (AW P c (blockA id Q) t M) := ⟨AW.block⟩
instance {l : List Oper} : Stp (AW P (.region id l.toArray false) Q t M) (AL P l.toArray l (Q .normal) t M) := ⟨AW.region⟩
instance {l : List Oper} : Stp (AW P (.region id ⟨l⟩ false) Q t M) (AL P ⟨l⟩ l (Q .normal) t M) := ⟨AW.region⟩
instance : Stp (AW P .skip Q t M) (Q .normal t M) := ⟨AW.skip⟩
instance : Stp (AW P (.exit id) Q t M) (Q (.exit id) t M) := ⟨AW.exit⟩
instance : Stp (AW P (.goto id) Q t M) (Q (.goto id) t M) := ⟨AW.goto⟩
instance : Stp (AW P .ret Q t M) (Q .ret t M) := ⟨AW.ret⟩
instance : Stp (AL P ops [] K t M) (K t M) := ⟨AL.nil⟩
instance : Stp (ADL P ops [] done Ls K t M) (K t M) := ⟨ADL.nil⟩
instance : Stp (thenA next Q .normal t M) (next t M) := ⟨thenA.normal⟩
instance : Stp (thenA next Q (.exit id) t M) (Q (.exit id) t M) := ⟨thenA.exit⟩
instance : Stp (thenA next Q (.goto id) t M) (Q (.goto id) t M) := ⟨thenA.goto⟩
instance : Stp (thenA next Q .ret t M) (Q .ret t M) := ⟨thenA.ret⟩
instance : Stp (blockA id Q .normal t M) (Q .normal t M) := ⟨blockA.normal⟩
instance : Stp (blockA id Q .ret t M) (Q .ret t M) := ⟨blockA.ret⟩
instance {g : Nat} : Stp (blockA id Q (.goto g) t M) (Q (.goto g) t M) := ⟨blockA.goto⟩
instance {body : Code} {J : Nat → Nat → List Value → Mem → Prop} {n : Option Nat} : Stp (scopeA body J n Q .ret t M) (Q .ret t M) := ⟨scopeA.ret⟩
instance {body : Code} {J : Nat → Nat → List Value → Mem → Prop} {n : Option Nat} : Stp (scopeA body J n Q .normal t M) (Q .normal t M) := ⟨scopeA.normal⟩
end
theorem ld_set {P : Program} {t : TypeId} {M : Mem} {s j : Nat} {B : Blk} (h : s < M.length) : aload P t (M.set s B) s j = bload P t B.cells j := by
 have : At (M.set s B) s B := ⟨List.getElem?_set_self h⟩
 exact this.ld
theorem set_push (M : Mem) (B B' : Blk) : (M ++ [B]).set M.length B' = M ++ [B'] := by simp
theorem push_get (M : Mem) (B : Blk) : (M ++ [B])[M.length]? = some B := by simp
theorem ld_one (P : Program) (ty : TypeId) (M : Mem) (B : Blk) (j : Nat) : aload P ty (M ++ [B]) M.length j = bload P ty B.cells j := (At.push M B).ld
theorem ld_two (P : Program) (ty : TypeId) (M : Mem) (X Y : Blk) (j : Nat) : aload P ty (M ++ [X] ++ [Y]) M.length j = bload P ty X.cells j := ((At.push M X).keep (Fr.push _ Y) (by simp)).ld
theorem ld_three (P : Program) (ty : TypeId) (M : Mem) (X Y Z : Blk) (j : Nat) : aload P ty (M ++ [X] ++ [Y] ++ [Z]) M.length j = bload P ty X.cells j := (((At.push M X).keep (Fr.push _ Y) (by simp)).keep (Fr.push _ Z) (by simp)).ld
theorem get_two (M : Mem) (X Y : Blk) : (M ++ [X] ++ [Y])[M.length]? = some X := by simp
theorem set_two (M : Mem) (X Y B : Blk) : (M ++ [X] ++ [Y]).set M.length B = M ++ [B] ++ [Y] := by simp
theorem get_three (M : Mem) (X Y Z : Blk) : (M ++ [X] ++ [Y] ++ [Z])[M.length]? = some X := by simp
theorem set_three (M : Mem) (X Y Z B : Blk) : (M ++ [X] ++ [Y] ++ [Z]).set M.length B = M ++ [B] ++ [Y] ++ [Z] := by simp
theorem Fr.push2 (M : Mem) (X Y : Blk) : Fr M (M ++ [X] ++ [Y]) [] := (Fr.push M X).tr (Fr.push _ Y)
theorem memE : (∀ (M : Mem) (B B' : Blk), (M ++ [B]).set M.length B' = M ++ [B']) ∧ (∀ (M : Mem) (B : Blk), (M ++ [B])[M.length]? = some B) ∧
 (∀ (P : Program) (ty : TypeId) (M : Mem) (B : Blk) (j : Nat), aload P ty (M ++ [B]) M.length j = bload P ty B.cells j) ∧
 (∀ (P : Program) (ty : TypeId) (M : Mem) (X Y : Blk) (j : Nat), aload P ty (M ++ [X] ++ [Y]) M.length j = bload P ty X.cells j) ∧
 (∀ (P : Program) (ty : TypeId) (M : Mem) (X Y Z : Blk) (j : Nat), aload P ty (M ++ [X] ++ [Y] ++ [Z]) M.length j = bload P ty X.cells j) ∧
 (∀ (M : Mem) (X Y : Blk), (M ++ [X] ++ [Y])[M.length]? = some X) ∧ (∀ (M : Mem) (X Y B : Blk), (M ++ [X] ++ [Y]).set M.length B = M ++ [B] ++ [Y]) ∧
 (∀ (M : Mem) (X Y Z : Blk), (M ++ [X] ++ [Y] ++ [Z])[M.length]? = some X) ∧ (∀ (M : Mem) (X Y Z B : Blk), (M ++ [X] ++ [Y] ++ [Z]).set M.length B = M ++ [B] ++ [Y] ++ [Z]) :=
 ⟨set_push, push_get, ld_one, ld_two, ld_three, get_two, set_two, get_three, set_three⟩
theorem boxE : (∀ (P : Program) (t : TypeId) (M : Mem) (s j : Nat) (B : Blk), s < M.length → aload P t (M.set s B) s j = bload P t B.cells j) ∧
 (∀ (M : Mem) (s : Nat) (B : Blk), s < M.length → (M.set s B)[s]? = some B) ∧ (∀ (M : Mem) (s : Nat) (A B : Blk), (M.set s A).set s B = M.set s B) ∧ (∀ (M : Mem) (s : Nat) (B : Blk), (M.set s B).length = M.length) ∧
 (∀ (cs : List Value) (j : Nat) (vs : List Value), spl cs j vs = cs.take j ++ vs ++ cs.drop (j + vs.length)) ∧
 (∀ cs ds : List Value, (Blk.box cs).put ds = .box ds) ∧ (∀ o s (cs ds : List Value), (Blk.row o s cs).put ds = .row o s ds) ∧ (∀ cs : List Value, (Blk.box cs).ours = true) ∧ (∀ o s (cs : List Value), (Blk.row o s cs).ours = o) ∧
 (∀ cs : List Value, (Blk.box cs).cells = cs) ∧ (∀ o s (cs : List Value), (Blk.row o s cs).cells = cs) ∧ (∀ a b : Blk, (some a = some b) = (a = b)) ∧ (∀ a b : Value, (some a = some b) = (a = b)) ∧ (∀ (a : Blk) (p : Blk → Prop), (∃ x, a = x ∧ p x) = p a) ∧ (∀ (a : Value) (p : Value → Prop), (∃ x, a = x ∧ p x) = p a) := by
 refine ⟨fun _ _ _ _ _ _ h => ld_set h, fun _ _ _ h => List.getElem?_set_self h, fun _ _ _ _ => List.set_set .., fun _ _ _ => List.length_set .., fun _ _ _ => rfl, fun _ _ => rfl, fun _ _ _ _ => rfl, fun _ => rfl, fun _ _ _ => rfl, fun _ => rfl, fun _ _ _ => rfl, ?_, ?_, ?_, ?_⟩ <;> intros <;> simp
theorem buildE : (∀ (x : Nat × Nat) l, (x :: l)[0]? = some x) ∧ (∀ (x : Nat × Nat) l i, (x :: l)[i + 1]? = l[i]?) ∧ (∀ l : List Value, l.take 0 = []) ∧ (∀ (x : Value) l i, (x :: l).take (i + 1) = x :: l.take i) ∧ (∀ (x : Value) l i, (x :: l).drop (i + 1) = l.drop i) ∧ (∀ l : List Value, l.drop 0 = l) ∧ (∀ i, ([] : List Value).drop i = []) ∧
 (∀ l : List Value, l ++ [] = l) ∧ (∀ (x : Value) l, (x :: l).length = l.length + 1) ∧ (([] : List Value).length = 0) ∧ (∀ (f : List Value → Value) x, (some x).map f = some (f x)) := by
 refine ⟨?_, ?_, ?_, ?_, ?_, ?_, ?_, ?_, ?_, ?_, ?_⟩ <;> intros <;> simp
def aeqV (P : Program) : Nat → TypeId → Value → Value → Option Bool
 | 0, _, _, _ => none
 | n + 1, t, x, y => match P.underlying t, x, y with
  | some .bool, .bool a, .bool b => some (a == b)
  | some (.int _), .int k a, .int k' b => if k = k' then some (a == b) else none
  | some .string, .string a, .string b => some (a == b)
  | some (.struct fs), .agg xs, .agg ys => if P.stoodInHeld t = true then none else fs.toList.foldr (fun f acc => if f.name = "_" then none else (apart1 P f.type xs.toList f.offset).bind fun a => (apart1 P f.type ys.toList f.offset).bind fun b => (aeqV P n f.type a b).bind fun r => if r = true then acc else some false) (some true)
  | _, _, _ => none
theorem aeqV_run {P : Program} {ι : Inj} : ∀ (n : Nat) (d : Nat) (t : TypeId) (x y x' y' : Value) (r : Bool), aeqV P n t x y = some r → VRel ι x x' → VRel ι y y' → ∀ w, (Op.equalIn (d + n) t x' y').run P w = .ok r w
 | 0, _, _, _, _, _, _, _, h, _, _, _ => by cases h
 | n + 1, d, t, x, y, x', y', r, h, hx, hy, w => by
  rw [← Nat.add_assoc]
  unfold aeqV at h
  split at h
  ·rename_i a b hu
   cases h; cases hx; cases hy
   simp [Op.equalIn, run_underlying hu]
  ·rename_i q k a k' b hu
   split at h
   ·rename_i e
    subst e
    cases h; cases hx; cases hy
    simp [Op.equalIn, run_underlying hu]
   ·cases h
  ·rename_i a b hu
   cases h; cases hx; cases hy
   simp [Op.equalIn, run_underlying hu]
  ·rename_i fs xs ys hu
   obtain ⟨xs⟩ := xs
   obtain ⟨ys⟩ := ys
   cases hx with
   | agg _ xs' hxs =>
    cases hy with
    | agg _ ys' hys =>
     split at h
     ·cases h
     ·rename_i hp
      have hf : P.fieldsOf t = fs := by simp [Program.fieldsOf, hu]
      rw [run_equalIn_struct w (d + n) t _ _ (by rw [hf]; exact hu) (by simpa using hp), hf]
      have key : ∀ (l : List Field) (r : Bool), l.foldr (fun f acc => if f.name = "_" then none else (apart1 P f.type xs f.offset).bind fun a => (apart1 P f.type ys f.offset).bind fun b => (aeqV P n f.type a b).bind fun r => if r = true then acc else some false) (some true) = some r → (Op.eqFields (d + n) ⟨xs'⟩ ⟨ys'⟩ l).run P w = .ok r w := by
       intro l
       induction l with
       | nil => intro r h; cases h; simp [Op.eqFields]
       | cons f l ih =>
        intro r h
        rw [List.foldr_cons] at h
        split at h
        ·cases h
        ·rename_i hn
         obtain ⟨a, ha, h⟩ := Option.bind_eq_some_iff.1 h
         obtain ⟨b, hb, h⟩ := Option.bind_eq_some_iff.1 h
         obtain ⟨q, hq, h⟩ := Option.bind_eq_some_iff.1 h
         obtain ⟨a', h1, h2⟩ := part_run ha hxs
         obtain ⟨b', h3, h4⟩ := part_run hb hys
         have h5 := aeqV_run n d f.type a b a' b' q hq h1 h3 w
         simp only [Op.eqFields, hn, ne_eq, not_false_eq_true, if_true, Sem.run_bind, h2, h4, h5, Result.andThen_ok]
         cases q with
         | false => cases h; simp
         | true => simpa using ih r h
      exact key _ _ h
  ·cases h
theorem pure_eqS {P : Program} {o : Oper} {ρ : Operand → Value} {t yt : TypeId} {x y : Operand} {neq : Bool} (ho : o.op = .binOp (if neq then .neq else .eql) t x y yt) (hg : P.eqGuardType P.depth t = false) {xs ys : List Value} (hx : ρ x = .agg ⟨xs⟩) (hy : ρ y = .agg ⟨ys⟩) {n : Nat} (hn : n ≤ 10000) {r : Bool} (h : aeqV P n t (ρ x) (ρ y) = some r) : PureA P o ρ (.bool (if neq then !r else r)) := by
 intro ι ρ' hr
 have hrx := hr x (by rw [ho]; simp [Op.operands])
 have hry := hr y (by rw [ho]; simp [Op.operands])
 refine ⟨_, .bool _, fun w => ?_⟩
 obtain ⟨d, hd⟩ : ∃ d, 10000 = d + n := ⟨10000 - n, by omega⟩
 have he := aeqV_run n d t _ _ _ _ r h hrx hry w
 rw [← hd] at he
 rw [hx] at hrx
 rw [hy] at hry
 generalize h' : ρ' x = x' at *
 generalize hz : ρ' y = y' at *
 cases hrx with
 | agg _ xs' hxs =>
  cases hry with
  | agg _ ys' hys =>
   cases neq with
   | false => simp [execOp, ho, hz, h', run_eqGuard_agg w _ _ _ _ _ _ hg, run_eql_struct, he]
   | true => simp [execOp, ho, hz, h', run_eqGuard_agg w _ _ _ _ _ _ hg, run_neq_struct, he]
section
variable {P : Program} {ops : Array Oper} {todo done : List Nat} {Ls : List (Nat × LP)} {rest : List Oper} {K : List Value → Mem → Prop} {t : List Value} {M : Mem}
variable {i : Nat} {dst : Option Tmp} {type : TypeId} {pos : String} {after : Array Edge}
def aggB : Value → Bool
 | .agg _ => true
 | _ => false
theorem aggB_eq {v : Value} (h : aggB v = true) : ∃ xs, v = .agg ⟨xs⟩ := by
 cases v <;> first | exact ⟨_, rfl⟩ | cases h
theorem AL.eqS {ty yt : TypeId} {x y : Operand} (hg : P.eqGuardType P.depth ty = false) (hok : okOpds ⟨dst, .binOp .eql ty x y yt, type, pos, after, none⟩ = true) (hx : aggB (ev t x) = true) (hy : aggB (ev t y) = true) (h : ∃ r, aeqV P 3 ty (ev t x) (ev t y) = some r ∧ AL P ops rest K (putT t dst (.bool r)) M) : AL P ops (⟨dst, .binOp .eql ty x y yt, type, pos, after, none⟩ :: rest) K t M := by
 obtain ⟨r, hr, h⟩ := h
 obtain ⟨xs, hx⟩ := aggB_eq hx
 obtain ⟨ys, hy⟩ := aggB_eq hy
 exact AL.op hok rfl (AOp.pure (pure_eqS (neq := false) rfl hg hx hy (by omega) hr) h)
theorem AL.neS {ty yt : TypeId} {x y : Operand} (hg : P.eqGuardType P.depth ty = false) (hok : okOpds ⟨dst, .binOp .neq ty x y yt, type, pos, after, none⟩ = true) (hx : aggB (ev t x) = true) (hy : aggB (ev t y) = true) (h : ∃ r, aeqV P 3 ty (ev t x) (ev t y) = some r ∧ AL P ops rest K (putT t dst (.bool !r)) M) : AL P ops (⟨dst, .binOp .neq ty x y yt, type, pos, after, none⟩ :: rest) K t M := by
 obtain ⟨r, hr, h⟩ := h
 obtain ⟨xs, hx⟩ := aggB_eq hx
 obtain ⟨ys, hy⟩ := aggB_eq hy
 exact AL.op hok rfl (AOp.pure (pure_eqS (neq := true) rfl hg hx hy (by omega) hr) h)
theorem AH.pure {op : Op} {v : Value} (he : isEff op = false) (hok : okOpds ⟨dst, op, type, pos, after, none⟩ = true) (hv : PureA P ⟨dst, op, type, pos, after, none⟩ (ev t) v) (h : ADL P ops todo (i :: done) Ls K (putT t dst v) M) : AH P ops dst op type pos after none i todo done Ls K t M := fun ho h1 h2 h3 => by
 obtain ⟨p1, p2, _, _, p3⟩ := planOk_cons ho h2
 exact AD.pure ho p1 (p2 he) hok rfl hv (mem_map_ls h3) (h h1 p3 h3)
theorem AH.eqS {ty yt : TypeId} {x y : Operand} (hg : P.eqGuardType P.depth ty = false) (hok : okOpds ⟨dst, .binOp .eql ty x y yt, type, pos, after, none⟩ = true) (hx : aggB (ev t x) = true) (hy : aggB (ev t y) = true) (h : ∃ r, aeqV P 3 ty (ev t x) (ev t y) = some r ∧ ADL P ops todo (i :: done) Ls K (putT t dst (.bool r)) M) : AH P ops dst (.binOp .eql ty x y yt) type pos after none i todo done Ls K t M := by
 obtain ⟨r, hr, h⟩ := h
 obtain ⟨xs, hx⟩ := aggB_eq hx
 obtain ⟨ys, hy⟩ := aggB_eq hy
 exact AH.pure rfl hok (pure_eqS (neq := false) rfl hg hx hy (by omega) hr) h
theorem AH.neS {ty yt : TypeId} {x y : Operand} (hg : P.eqGuardType P.depth ty = false) (hok : okOpds ⟨dst, .binOp .neq ty x y yt, type, pos, after, none⟩ = true) (hx : aggB (ev t x) = true) (hy : aggB (ev t y) = true) (h : ∃ r, aeqV P 3 ty (ev t x) (ev t y) = some r ∧ ADL P ops todo (i :: done) Ls K (putT t dst (.bool !r)) M) : AH P ops dst (.binOp .neq ty x y yt) type pos after none i todo done Ls K t M := by
 obtain ⟨r, hr, h⟩ := h
 obtain ⟨xs, hx⟩ := aggB_eq hx
 obtain ⟨ys, hy⟩ := aggB_eq hy
 exact AH.pure rfl hok (pure_eqS (neq := true) rfl hg hx hy (by omega) hr) h
end
end Go.Proofs.Ytbdejnnbpdgjlaa.Ax
