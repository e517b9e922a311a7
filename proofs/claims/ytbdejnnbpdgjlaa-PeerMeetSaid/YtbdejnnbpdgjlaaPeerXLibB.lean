/- The operations that look at values alone: they do so in the model. No conditions: definitions and lemmas alone. -/
import Derived.Test.YtbdejnnbpdgjlaaPeerXLibA
import Derived.Deep.AppendSrc
import Derived.Laws.CopyRow
namespace Go.Proofs.Ytbdejnnbpdgjlaa.Ax
open Go Go.RowKit
set_option linter.unusedVariables false
set_option linter.unusedSimpArgs false
section
variable {P : Program} {o : Oper} {ρ : Operand → Value} {v : Value}
theorem pure_un {op : UnOp} {t : TypeId} {x : Operand} (ho : o.op = .unOp op t x) (hv : aun op (ρ x) = some v) : PureA P o ρ v := by
 have hx : flat (ρ x) = true ∧ flat v = true := by
  unfold aun at hv
  split at hv <;> cases hv <;> (rename_i h; rw [h]; exact ⟨rfl, rfl⟩)
 refine pure_flat (fun cs b h => by rw [ho] at h; cases h) (fun z hz => ?_) hx.2 fun w => ?_
 ·rw [ho] at hz
  simp [Op.operands] at hz
  subst hz; exact hx.1
 ·unfold aun at hv
  split at hv <;> cases hv <;> (rename_i h; simp [execOp, ho, h, Op.unary, Op.intArith, Op.intBits, bits])
theorem pure_conv {src dst : TypeId} {x : Operand} (ho : o.op = .convert src dst x) {d : TypeDesc} {k k' : IntKind} {n : Int} (h1 : P.underlying src = some d) (h2 : P.underlying dst = some (.int k)) (hx : ρ x = .int k' n) : PureA P o ρ (.int k (k.wrap n)) := by
 refine pure_flat (fun cs b h => by rw [ho] at h; cases h) (fun z hz => ?_) rfl fun w => ?_
 ·rw [ho] at hz
  simp [Op.operands] at hz
  subst hz; rw [hx]; rfl
 ·cases d <;> simp [execOp, ho, hx, convert, run_underlying h1, run_underlying h2, Conv.intToInt]
theorem pure_extract {t : Operand} {i : Nat} (ho : o.op = .extract t i) {vs : List Value} (hx : ρ t = .tuple ⟨vs⟩) (hv : vs[i]? = some v) : PureA P o ρ v := by
 intro ι ρ' hr
 have h1 := hr t (by rw [ho]; simp [Op.operands])
 rw [hx] at h1
 generalize hz : ρ' t = z at h1
 cases h1 with
 | tuple xs ys h =>
  obtain ⟨v', h2, h3⟩ := h.get hv
  exact ⟨v', h3, fun w => by simp [execOp, ho, hz, Instr.extract, h2]⟩
theorem pure_nilCheck {x : Operand} (ho : o.op = .nilCheck x) {a : Addr} (hx : ρ x = .pointer (some a)) : PureA P o ρ (.pointer (some a)) := by
 intro ι ρ' hr
 have h1 := hr x (by rw [ho]; simp [Op.operands])
 rw [hx] at h1
 refine ⟨ρ' x, h1, fun w => ?_⟩
 generalize hz : ρ' x = z at h1
 cases h1 with
 | ptr b off l h => simp [execOp, ho, hz]
theorem pure_fieldAddr {t : TypeId} {x : Operand} {f : Nat} (ho : o.op = .fieldAddr t x f) (hv : afield P t (ρ x) f = some v) : PureA P o ρ v := by
 intro ι ρ' hr
 have h1 := hr x (by rw [ho]; simp [Op.operands])
 unfold afield at hv
 split at hv <;> first | cases hv | skip
 rename_i fs a hu hx
 rw [hx] at h1
 split at hv <;> first | cases hv | skip
 rename_i fd hfd
 split at hv <;> cases hv
 rename_i n hs
 generalize hz : ρ' x = z at h1
 cases h1 with
 | ptr b off l h =>
  refine ⟨_, .ptr b (off + fd.offset) l h, fun w => ?_⟩
  simp [execOp, ho, hz, Instr.fieldAt, run_underlying hu, hfd, Instr.sureAddr, fieldPlace, run_size hs, addr_add, Nat.add_assoc]
theorem isAgg_run {t : TypeId} {d : TypeDesc} (h : P.underlying t = some d) (w : World) : (isAgg t).run P w = .ok (match d with | .struct _ | .array _ _ => true | _ => false) w := by
 unfold isAgg
 cases d <;> simp [run_underlying h]
theorem part_run {ι : Inj} {t : TypeId} {xs ys : List Value} {off : Nat} (hv : apart1 P t xs off = some v) (hr : LRel ι xs ys) : ∃ v', VRel ι v v' ∧ ∀ w, (part t ⟨ys⟩ off).run P w = .ok v' w := by
 unfold apart1 at hv
 split at hv
 ·rename_i fs hu
  obtain ⟨s, hs, rfl⟩ := Option.map_eq_some_iff.1 hv
  refine ⟨_, .agg _ _ ((hr.drop off).take s), fun w => ?_⟩
  simp [part, isAgg_run hu, run_size hs, List.take_drop]
 ·rename_i n e hu
  obtain ⟨s, hs, rfl⟩ := Option.map_eq_some_iff.1 hv
  refine ⟨_, .agg _ _ ((hr.drop off).take s), fun w => ?_⟩
  simp [part, isAgg_run hu, run_size hs, List.take_drop]
 ·rename_i d h1 h2 hu
  obtain ⟨v', h3, h4⟩ := hr.get hv
  refine ⟨v', h4, fun w => ?_⟩
  unfold part
  simp only [Sem.run_bind, isAgg_run hu, Result.andThen_ok]
  cases d <;> first | (simp [h3]; done) | (exact absurd rfl (h1 _)) | (exact absurd rfl (h2 _ _))
 ·cases hv
theorem pure_field {t : TypeId} {x : Operand} {f : Nat} (ho : o.op = .field t x f) (hv : afieldv P t (ρ x) f = some v) : PureA P o ρ v := by
 intro ι ρ' hr
 have h1 := hr x (by rw [ho]; simp [Op.operands])
 unfold afieldv at hv
 split at hv <;> first | cases hv | skip
 rename_i fs cs hu hx
 rw [hx] at h1
 split at hv <;> first | cases hv | skip
 rename_i fd hfd
 generalize hz : ρ' x = z at h1
 cases h1 with
 | agg xs ys h =>
  obtain ⟨v', h2, h3⟩ := part_run hv h
  exact ⟨v', h2, fun w => by simp [execOp, ho, hz, Instr.field, run_underlying hu, hfd, asAgg, h3]⟩
theorem pure_index {t : TypeId} {x i : Operand} (ho : o.op = .index t x i) (hv : aindexv P t (ρ x) (ρ i) = some v) : PureA P o ρ v := by
 intro ι ρ' hr
 have h1 := hr x (by rw [ho]; simp [Op.operands])
 have h2 := hr i (by rw [ho]; simp [Op.operands])
 unfold aindexv at hv
 split at hv <;> first | cases hv | skip
 ·rename_i len e cs k n hu hx hi
  split at hv <;> first | cases hv | skip
  rename_i hn
  obtain ⟨s, hs, hv⟩ := Option.bind_eq_some_iff.1 hv
  rw [hi] at h2; rw [hx] at h1
  have h2 := h2.int_inv
  generalize hz : ρ' x = z at h1
  cases h1 with
  | agg xs ys h =>
   obtain ⟨v', h3, h4⟩ := part_run hv h
   exact ⟨v', h3, fun w => by simp [execOp, ho, hz, h2, Instr.index, asIntOf, run_underlying hu, hn, run_size hs, h4]⟩
 ·rename_i s k n hu hx hi
  split at hv <;> first | cases hv | skip
  rename_i hn
  split at hv <;> cases hv
  rename_i b hb
  rw [hi] at h2; rw [hx] at h1
  have h2 := h2.int_inv
  have h1 := h1.string_inv
  exact ⟨_, .int _ _, fun w => by simp [execOp, ho, h1, h2, Instr.index, asIntOf, run_underlying hu, hn, hb]⟩
theorem pure_indexAddr {t : TypeId} {x i : Operand} (ho : o.op = .indexAddr t x i) (hv : aindex P t (ρ x) (ρ i) = some v) : PureA P o ρ v := by
 intro ι ρ' hr
 have h1 := hr x (by rw [ho]; simp [Op.operands])
 have h2 := hr i (by rw [ho]; simp [Op.operands])
 unfold aindex at hv
 split at hv <;> first | cases hv | skip
 ·rename_i e k n hu hi
  split at hv <;> first | cases hv | skip
  rename_i hn
  obtain ⟨hsl, hn0, hn1⟩ := hn
  obtain ⟨s, hs, rfl⟩ := Option.map_eq_some_iff.1 hv
  rw [hi] at h2
  have h2 := h2.int_inv
  rcases h1.slice_inv hsl with ⟨hx, hx'⟩ | ⟨b, off, len, cap, cap', l, a', hx, hx', hb, hl, hc, ha⟩
  ·rw [hx] at hn1; simp [sln] at hn1; omega
  ·rw [hx] at hn1 ⊢
   simp only [sln] at hn1
   obtain ⟨rfl, hlim⟩ := ha.resolve_left (by omega)
   refine ⟨_, .ptr b (off + n.toNat * s) l hb, fun w => ?_⟩
   have : n < (len : Int) := hn1
   simp [execOp, ho, hx', h2, Instr.indexAt, asIntOf, run_underlying hu, hn0, this, run_size hs, addr_add, Nat.add_assoc]
 ·rename_i len e k n hu hi
  split at hv <;> first | cases hv | skip
  rename_i a hx
  split at hv <;> first | cases hv | skip
  rename_i hn
  obtain ⟨s, hs, rfl⟩ := Option.map_eq_some_iff.1 hv
  rw [hi] at h2
  have h2 := h2.int_inv
  rw [hx] at h1
  generalize hz : ρ' x = z at h1
  cases h1 with
  | ptr b off l h =>
   refine ⟨_, .ptr b (off + n.toNat * s) l h, fun w => ?_⟩
   simp [execOp, ho, hz, h2, Instr.indexAt, asIntOf, run_underlying hu, hn, run_size hs, addr_add, Nat.add_assoc, Instr.sureAddr]
theorem pure_len {args : Array Operand} {tys : Array TypeId} {x : Operand} {t : TypeId} (ho : o.op = .call { callee := .builtin .len, args, argTypes := tys }) (ha : args.toList = [x]) (ht : tys.toList = [t]) (hv : alen P t (ρ x) = some v) : PureA P o ρ v := by
 obtain rfl : args = #[x] := by cases args; simp_all
 obtain rfl : tys = #[t] := by cases tys; simp_all
 intro ι ρ' hr
 have h1 := hr x (by rw [ho]; simp [Op.operands, Call.operands])
 unfold alen at hv
 split at hv <;> first | cases hv | skip
 ·rename_i s hu hx
  rw [hx] at h1
  have h1 := h1.string_inv
  exact ⟨_, .int _ _, fun w => by simp [execOp, ho, resolve, invoke, builtin, h1, Builtin.len_, run_underlying hu, goInt]⟩
 ·rename_i z e hu
  split at hv <;> cases hv
  rename_i hsl
  rcases h1.slice_inv hsl with ⟨hx, hx'⟩ | ⟨b, off, len, cap, cap', l, a', hx, hx', hb, hl, hc, ha⟩
  ·rw [hx]
   exact ⟨_, .int _ _, fun w => by simp [execOp, ho, resolve, invoke, builtin, hx', Builtin.len_, run_underlying hu, goInt, sln]⟩
  ·rw [hx]
   exact ⟨_, .int _ _, fun w => by simp [execOp, ho, resolve, invoke, builtin, hx', Builtin.len_, run_underlying hu, goInt, sln]⟩
theorem LRel.map {ι : Inj} {ρ ρ' : Operand → Value} : ∀ {l : List Operand}, (∀ x ∈ l, VRel ι (ρ x) (ρ' x)) → LRel ι (l.map ρ) (l.map ρ')
 | [], _ => .nil
 | x :: l, h => .cons _ _ _ _ (h x (by simp)) (LRel.map fun y hy => h y (by simp [hy]))
theorem pure_makeFunc {f : FuncId} {first captured : Array Operand} (ho : o.op = .makeFunc (.func f) first captured) : PureA P o ρ (.func (.func f) ⟨first.toList.map ρ⟩ ⟨captured.toList.map ρ⟩) := by
 intro ι ρ' hr
 refine ⟨.func (.func f) ⟨first.toList.map ρ'⟩ ⟨captured.toList.map ρ'⟩, .func _ (fun _ h => by cases h) _ _ _ _ (LRel.map fun x hx => hr x ?_) (LRel.map fun x hx => hr x ?_), fun w => ?_⟩
 ·rw [ho]; simp only [Op.operands, Array.mem_append]; exact .inl (by simpa using hx)
 ·rw [ho]; simp only [Op.operands, Array.mem_append]; exact .inr (by simpa using hx)
 ·have h1 : first.map ρ' = ⟨first.toList.map ρ'⟩ := by apply Array.ext'; simp
  have h2 : captured.map ρ' = ⟨captured.toList.map ρ'⟩ := by apply Array.ext'; simp
  simp [execOp, ho, Instr.makeFunc, h1, h2]
theorem foldO_flat {f : Value → Value → Option Value} (hf : ∀ x y z, f x y = some z → flat x = true ∧ flat y = true ∧ flat z = true) : ∀ {l : List Value} {x v : Value}, flat x = true → foldO f x l = some v → (∀ y ∈ l, flat y = true) ∧ flat v = true
 | [], x, v, hx, h => by cases h; exact ⟨by simp, hx⟩
 | y :: l, x, v, hx, h => by
  obtain ⟨z, h1, h2⟩ := Option.bind_eq_some_iff.1 h
  obtain ⟨a, b, c⟩ := hf _ _ _ h1
  obtain ⟨d, e⟩ := foldO_flat hf c h2
  exact ⟨fun u hu => (List.mem_cons.1 hu).elim (fun h => h ▸ b) (fun h => d u h), e⟩
theorem foldO_run {f : Value → Value → Option Value} {g : Value → Value → Sem Value} (hf : ∀ x y z, f x y = some z → ∀ w, (g x y).run P w = .ok z w) : ∀ {l : List Value} {x v : Value}, foldO f x l = some v → ∀ w, (l.foldlM g x).run P w = .ok v w
 | [], x, v, h, w => by cases h; rfl
 | y :: l, x, v, h, w => by
  obtain ⟨z, h1, h2⟩ := Option.bind_eq_some_iff.1 h
  simp [hf _ _ _ h1, foldO_run hf h2]
theorem amin2_flat (x y z : Value) (h : amin2 x y = some z) : flat x = true ∧ flat y = true ∧ flat z = true := by
 unfold amin2 at h; split at h <;> cases h; exact ⟨rfl, rfl, rfl⟩
theorem amax2_flat (x y z : Value) (h : amax2 x y = some z) : flat x = true ∧ flat y = true ∧ flat z = true := by
 unfold amax2 at h; split at h <;> cases h; exact ⟨rfl, rfl, rfl⟩
theorem pure_fold {b : Builtin} {f : Value → Value → Option Value} {g : Value → Value → Sem Value} (hf : ∀ x y z, f x y = some z → ∀ w, (g x y).run P w = .ok z w) (hfl : ∀ x y z, f x y = some z → flat x = true ∧ flat y = true ∧ flat z = true)
  {args : Array Operand} {tys : Array TypeId} {x y : Operand} {l : List Operand} (ho : o.op = .call { callee := .builtin b, args, argTypes := tys }) (ha : args.toList = x :: y :: l)
  (hb : ∀ (tys : Array TypeId) (ty : TypeId) (cs : Array Bool) (z : Value) (zs : List Value) (w : World), (builtin b tys ty cs ⟨z :: zs⟩).run P w = ((zs.foldlM g z).run P w).andThen fun v w' => .ok (.value v) w') (hv : foldO f (ρ x) ((y :: l).map ρ) = some v) : PureA P o ρ v := by
 obtain ⟨z, h1, h2⟩ := Option.bind_eq_some_iff.1 hv
 obtain ⟨h3, h4, h5⟩ := hfl _ _ _ h1
 obtain ⟨h6, h7⟩ := foldO_flat hfl h5 h2
 have hargs : args = ⟨x :: y :: l⟩ := by cases args; simp_all
 refine pure_flat (fun cs b h => by rw [ho] at h; cases h) (fun z hz => ?_) h7 fun w => ?_
 ·rw [ho, hargs] at hz
  simp [Op.operands, Call.operands] at hz
  rcases hz with rfl | rfl | hz
  ·exact h3
  ·exact h4
  ·exact h6 _ (List.mem_map_of_mem hz)
 ·have hm : args.map ρ = ⟨ρ x :: (y :: l).map ρ⟩ := by rw [hargs]; apply Array.ext'; simp
  have := foldO_run hf hv w
  simp only [execOp, ho, resolve, Sem.run_bind, Sem.run_pure, Result.andThen_ok, invoke, hm, hb, this]
end
section
variable {P : Program} {o : Oper} {ρ : Operand → Value} {v : Value}
theorem natOf_run {ι : Inj} {ρ' : Operand → Value} {x : Operand} {d n : Nat} (hr : VRel ι (ρ x) (ρ' x)) (h : natOf (some (ρ x)) d = some n) : ∃ k, ρ' x = .int k (n : Int) := by
 unfold natOf at h
 generalize ρ x = u at hr h
 cases u <;> simp at h
 rename_i k m
 obtain ⟨hm, rfl⟩ := h
 refine ⟨k, ?_⟩
 rw [hr.int_inv]
 congr 1
 omega
theorem capLb_le {c c' : Nat} (h : capOk c c') : capLb c ≤ c' := by
 unfold capLb capOk at *
 rcases h with rfl | ⟨h1, h2⟩
 ·split <;> omega
 ·rw [if_neg (by omega)]; omega
theorem capSub_ok {c c' l : Nat} (h : capOk c c') : capOk (capSub c l) (c' - l) := by
 unfold capSub capOk at *
 rcases h with rfl | ⟨h1, h2⟩
 ·split
  ·exact .inl rfl
  ·exact .inr ⟨by omega, by omega⟩
 ·rw [if_neg (by omega)]
  exact .inr ⟨by omega, by omega⟩
theorem sub_run {ι : Inj} {x : Value} {A : Option Addr} {n cap' : Nat} (hx : VRel ι x (.slice A n cap')) (hs : isSl x = true) {s l h c m : Nat} (hlh : l ≤ h) (hc : capOk c (m - l)) (hm : h ≤ m)
  (hcap : m ≤ cap') (hsz : ∀ b off len cap lo, x = .slice (some ⟨b, off, none⟩) len cap → ι b = some lo → lo.sz = s ∨ m ≤ l) :
  VRel ι (subsl x s l h c) (.slice (if m = l then A else A.map (·.add (l * s))) (h - l) (m - l)) := by
 rcases hx.slice_inv hs with ⟨hx, hx'⟩ | ⟨b, off, len, cap, cap', lo, a', hx, hx', hb, hl, hc', ha⟩
 ·subst hx
  cases hx'
  obtain rfl : m = 0 := by omega
  obtain rfl : h = 0 := by omega
  obtain rfl : l = 0 := by omega
  simpa [subsl] using VRel.sliceNil
 ·subst hx
  cases hx'
  simp only [subsl]
  by_cases hml : m = l
  ·rw [if_pos hml]
   exact .slice b (off + l * s) (h - l) c (m - l) lo a' hb (by omega) hc (.inl (by omega))
  ·rw [if_neg hml]
   rcases ha with ha | ⟨rfl, hlim⟩
   ·omega
   ·refine .slice b (off + l * s) (h - l) c (m - l) lo _ hb (by omega) hc (.inr ⟨?_, ?_⟩)
    ·simp [addr_add, Nat.add_assoc]
    ·rcases hsz b off _ cap lo rfl hb with hz | hz
     ·subst hz
      have h1 : l * lo.sz + (m - l) * lo.sz = m * lo.sz := by
       rw [← Nat.add_mul]; congr 1; omega
      have h2 : m * lo.sz ≤ cap' * lo.sz := Nat.mul_le_mul_right _ hcap
      omega
     ·omega
theorem capOk_lt {m c c' : Nat} (h : capOk c c') (h1 : m ≤ capLb c) : m ≤ c' := Nat.le_trans h1 (capLb_le h)
theorem load_slice {t e : TypeId} {x : Operand} {lo hi mx : Option Operand} (ho : o.op = .slice t x lo hi mx) (hu : P.underlying t = some (.slice e)) {s : Nat} (hs : tsz P e = some s) (hv : aslice (ρ x) s (lo.map ρ) (hi.map ρ) (mx.map ρ) = some v) :
  LoadA P o ρ (fun M => szOk M (ρ x) s) v := by
 intro ι N0 ρ' M w hm hL hr
 have h1 := hr x (by rw [ho]; simp [Op.operands])
 unfold aslice at hv
 split at hv <;> first | cases hv | skip
 rename_i hsl
 have hlo : ∀ n d, natOf (lo.map ρ) d = some n → lo = none ∧ n = d ∨ ∃ y k, lo = some y ∧ ρ' y = .int k (n : Int) := by
  intro n d h
  cases lo with
  | none => simp [natOf] at h; exact .inl ⟨rfl, h.symm⟩
  | some y => obtain ⟨k, hk⟩ := natOf_run (hr y (by rw [ho]; simp [Op.operands])) h; exact .inr ⟨y, k, rfl, hk⟩
 have hhi : ∀ n d, natOf (hi.map ρ) d = some n → hi = none ∧ n = d ∨ ∃ y k, hi = some y ∧ ρ' y = .int k (n : Int) := by
  intro n d h
  cases hi with
  | none => simp [natOf] at h; exact .inl ⟨rfl, h.symm⟩
  | some y => obtain ⟨k, hk⟩ := natOf_run (hr y (by rw [ho]; simp [Op.operands])) h; exact .inr ⟨y, k, rfl, hk⟩
 obtain ⟨l, hl, hv⟩ := Option.bind_eq_some_iff.1 hv
 obtain ⟨h, hh, hv⟩ := Option.bind_eq_some_iff.1 hv
 -- the slice in the world
 obtain ⟨A, len, cap', hx', hlen, hcok, hcl⟩ : ∃ A len cap', ρ' x = .slice A len cap' ∧ len = sln (ρ x) ∧ capOk (scp (ρ x)) cap' ∧ len ≤ cap' := by
  rcases h1.slice_inv hsl with ⟨hx, hx'⟩ | ⟨b, off, len, cap, cap', lo, a', hx, hx', hb, hl, hc, ha⟩
  ·exact ⟨none, 0, 0, hx', by rw [hx]; rfl, by rw [hx]; exact .inl rfl, Nat.le_refl _⟩
  ·exact ⟨_, len, cap', hx', by rw [hx]; rfl, by rw [hx]; exact hc, hl⟩
 have hsz : ∀ b off len cap lo, ρ x = .slice (some ⟨b, off, none⟩) len cap → ι b = some lo → lo.sz = s ∨ cap' = 0 := by
  intro b off len cap lo hx hb
  by_cases hc0 : cap = 0
  ·right
   rw [hx, hc0] at hcok
   rcases hcok with h | ⟨h, _⟩
   ·exact h
   ·simp [scp, capLow] at h
  left
  rcases Nat.lt_or_ge b M.length with hlt | hge
  ·obtain ⟨B, hB⟩ : ∃ B, M[b]? = some B := ⟨_, List.getElem?_eq_getElem hlt⟩
   have he := hL.2 _ _ _ B hx hc0 hB
   rw [← he]
   exact (hm.blk b B lo hB hb).esz (by rw [he]; exact hL.1)
  ·rw [hm.dom b hge] at hb; cases hb
 have hinst : ∀ z : Value, VRel ι v z → (∀ w', (Instr.slice t (ρ' x) (lo.map ρ') (hi.map ρ') (mx.map ρ')).run P w' = .ok z w') → ∃ v', VRel ι v v' ∧ (execOp ρ' o).run P w = .ok (.value v') w := by
  intro z hz hrun
  refine ⟨z, hz, ?_⟩
  simp [execOp, ho, Instr.sliceAt, run_underlying hu, hrun]
 cases mx with
 | none =>
  simp only [Option.map_none] at hv
  by_cases hc : l ≤ h ∧ (hi.map ρ = none ∨ h ≤ capLb (scp (ρ x)))
  case neg => rw [if_neg hc] at hv; cases hv
  rw [if_pos hc] at hv
  obtain rfl := Option.some.inj hv
  have hhc : h ≤ cap' := by
   rcases hc.2 with hn | hn
   ·rcases hhi _ _ hh with ⟨_, rfl⟩ | ⟨y, k, hy, _⟩
    ·rw [← hlen]; exact hcl
    ·rw [hy] at hn; simp at hn
   ·exact capOk_lt hcok hn
  refine hinst _ (sub_run (hx' ▸ h1) hsl hc.1 (capSub_ok hcok) hhc (Nat.le_refl _) (fun b off len cap lo e1 e2 => (hsz b off len cap lo e1 e2).imp id (fun h => by omega))) fun w' => ?_
  rw [hx']
  have e1 : (0 : Int) ≤ l ∧ (l : Int) ≤ (h : Int) := ⟨by omega, by omega⟩
  have e2 : (0 : Int) ≤ h ∧ (h : Int) ≤ (cap' : Int) := ⟨by omega, by omega⟩
  rcases hlo _ _ hl with ⟨rfl, rfl⟩ | ⟨y, k, rfl, hy⟩ <;> rcases hhi _ _ hh with ⟨rfl, rfl⟩ | ⟨y', k', rfl, hy'⟩
  ·simp [Instr.slice, Instr.sliceBounds, Instr.sliceBound, asIntOf, run_underlying hu, run_size hs, hlen]
  ·simp [Instr.slice, Instr.sliceBounds, Instr.sliceBound, asIntOf, run_underlying hu, run_size hs, hy', hhc]
  ·simp [Instr.slice, Instr.sliceBounds, Instr.sliceBound, asIntOf, run_underlying hu, run_size hs, hy, hlen, hc.1]
  ·simp [Instr.slice, Instr.sliceBounds, Instr.sliceBound, asIntOf, run_underlying hu, run_size hs, hy, hy', hhc, hc.1]
 | some z =>
  simp only [Option.map_some] at hv
  by_cases hhn : hi.map ρ = none
  ·rw [if_pos hhn] at hv; cases hv
  rw [if_neg hhn] at hv
  obtain ⟨m, hm', hv⟩ := Option.bind_eq_some_iff.1 hv
  by_cases hc : l ≤ h ∧ h ≤ m ∧ m ≤ capLb (scp (ρ x)) ∧ m < capLow
  case neg => rw [if_neg hc] at hv; cases hv
  rw [if_pos hc] at hv
  obtain rfl := Option.some.inj hv
  obtain ⟨km, hkm⟩ := natOf_run (hr z (by rw [ho]; simp [Op.operands])) hm'
  have hmc : m ≤ cap' := capOk_lt hcok hc.2.2.1
  have hrel := sub_run (hx' ▸ h1) hsl hc.1 (c := m - l) (.inl rfl) hc.2.1 hmc (fun b off len cap lo e1 e2 => (hsz b off len cap lo e1 e2).imp id (fun h => by omega))
  refine hinst _ hrel fun w' => ?_
  rw [hx']
  rcases hhi _ _ hh with ⟨rfl, rfl⟩ | ⟨y', k', rfl, hy'⟩
  ·simp at hhn
  ·rcases hlo _ _ hl with ⟨rfl, rfl⟩ | ⟨y, k, rfl, hy⟩
   ·simp [Instr.slice, Instr.sliceBounds, Instr.sliceBound, asIntOf, run_underlying hu, run_size hs, hy', hkm, hmc, hc.2.1]
   ·simp [Instr.slice, Instr.sliceBounds, Instr.sliceBound, asIntOf, run_underlying hu, run_size hs, hy, hy', hkm, hmc, hc.2.1, hc.1]
theorem load_cut {t e : TypeId} {x : Operand} {lo hi : Option Operand} (ho : o.op = .slice t x lo hi none) {n : Nat} (hu : P.underlying t = some (.array n e)) (hs : tsz P e = some 1) {b off : Nat} (hx : ρ x = .pointer (some ⟨b, off, none⟩)) {l h : Nat}
  (hl : natOf (lo.map ρ) 0 = some l) (hh : natOf (hi.map ρ) n = some h) (hc : l ≤ h ∧ h ≤ n) :
  LoadA P o ρ (fun M => ∃ cs, M[b]? = some (.box cs) ∧ off + n ≤ cs.length) (.slice (some ⟨b, off + l, none⟩) (h - l) (n - l)) := by
 intro ι N0 ρ' M w hm hL hr
 have h1 := hr x (by rw [ho]; simp [Op.operands])
 rw [hx] at h1
 obtain ⟨cs, hB, hcs⟩ := hL
 generalize hz : ρ' x = z at h1
 cases h1 with
 | ptr b off lo' hb =>
  obtain ⟨hg, hsz, cc, e', hw, hlim, hlim2, hcell⟩ := hm.blk b _ lo' hB hb
  have e0 : lo'.base + (off + l) + (n - l) * lo'.sz ≤ lo'.lim := by
   rw [hsz]; omega
  refine ⟨.slice (some (if n = l then ⟨lo'.g, lo'.base + off, none⟩ else (⟨lo'.g, lo'.base + off, none⟩ : Addr).add (l * 1))) (h - l) (n - l), .slice b (off + l) (h - l) (n - l) (n - l) lo' _ hb (by omega) (.inl rfl) ?_, ?_⟩
  ·by_cases hnl : n = l
   ·exact .inl (by omega)
   ·refine .inr ⟨?_, e0⟩
    rw [if_neg hnl, addr_add]
    congr 1
    omega
  ·have hlo : lo = none ∧ l = 0 ∨ ∃ y k, lo = some y ∧ ρ' y = .int k (l : Int) := by
    cases lo with
    | none => simp [natOf] at hl; exact .inl ⟨rfl, hl.symm⟩
    | some y => obtain ⟨k, hk⟩ := natOf_run (hr y (by rw [ho]; simp [Op.operands])) hl; exact .inr ⟨y, k, rfl, hk⟩
   have hhi : hi = none ∧ h = n ∨ ∃ y k, hi = some y ∧ ρ' y = .int k (h : Int) := by
    cases hi with
    | none => simp [natOf] at hh; exact .inl ⟨rfl, hh.symm⟩
    | some y => obtain ⟨k, hk⟩ := natOf_run (hr y (by rw [ho]; simp [Op.operands])) hh; exact .inr ⟨y, k, rfl, hk⟩
   rcases hlo with ⟨rfl, rfl⟩ | ⟨y, k, rfl, hy⟩ <;> rcases hhi with ⟨rfl, rfl⟩ | ⟨y', k', rfl, hy'⟩
   ·simp [execOp, ho, hz, Instr.sliceAt, Instr.sureAddr, Instr.sliceBounds, Instr.sliceBound, asIntOf, run_underlying hu, run_size hs]
   ·simp [execOp, ho, hz, Instr.sliceAt, Instr.sureAddr, Instr.sliceBounds, Instr.sliceBound, asIntOf, run_underlying hu, run_size hs, hy', hc.2]
   ·simp [execOp, ho, hz, Instr.sliceAt, Instr.sureAddr, Instr.sliceBounds, Instr.sliceBound, asIntOf, run_underlying hu, run_size hs, hy, hc.1]
   ·simp [execOp, ho, hz, Instr.sliceAt, Instr.sureAddr, Instr.sliceBounds, Instr.sliceBound, asIntOf, run_underlying hu, run_size hs, hy, hy', hc.1, hc.2]
end
section
variable {P : Program} {o : Oper} {ρ : Operand → Value} {v : Value}
theorem VRel.cl {ι : Inj} {v v' : Value} (h : VRel ι v v') : LRel ι (cl v) (cl v') := by
 cases h with
 | agg xs ys h => exact h
 | _ => exact .cons _ _ _ _ (by constructor <;> assumption) .nil
theorem fold_set (cs : Array Value) (off : Nat) : ∀ (l : List Value) (k : Nat), off + k + l.length ≤ cs.size →
  ((l.zipIdx k).foldl (fun cs p => cs.setIfInBounds (off + p.2) p.1) cs).toList = cs.toList.take (off + k) ++ l ++ cs.toList.drop (off + k + l.length)
 | [], k, h => by simp
 | x :: l, k, h => by
  rw [List.zipIdx_cons, List.foldl_cons, fold_set _ off l (k + 1) (by simp at h ⊢; omega)]
  simp only [Array.toList_setIfInBounds, List.length_cons] at h ⊢
  apply List.ext_getElem?
  intro j
  have hsz : off + k < cs.toList.length := by simp; omega
  have hsz' : cs.toList.length = cs.size := by simp
  simp only [List.getElem?_append, List.length_append, List.length_take, List.length_set, List.getElem?_take, List.getElem?_drop, List.getElem?_set, List.length_cons, List.getElem?_cons]
  have hm : min (off + (k + 1)) cs.toList.length = off + k + 1 := Nat.min_eq_left (by omega)
  have hm' : min (off + k) cs.toList.length = off + k := Nat.min_eq_left (by omega)
  rw [hm, hm']
  by_cases h1 : j < off + k
  ·simp [h1, show j < off + k + 1 by omega, show j < off + (k + 1) by omega, show ¬ off + k = j by omega, show j < off + k + 1 + l.length by omega, show j < off + k + (l.length + 1) by omega]
  ·by_cases h2 : j = off + k
   ·subst h2
    simp [show off + k < off + (k + 1) by omega, show off + k < cs.size by omega]
    intro h; omega
   ·by_cases h3 : j < off + k + 1 + l.length
    ·simp [h1, h3, show ¬ j < off + k + 1 by omega, show j < off + k + (l.length + 1) by omega, show ¬ j - (off + k) = 0 by omega]
     rw [show j - (off + k) - 1 = j - (off + k + 1) by omega]
    ·simp [h3, h1, show ¬ j < off + k + (l.length + 1) by omega, show ¬ off + k = off + (k + 1) + l.length + (j - (off + k + 1 + l.length)) by omega]
     try (congr 1; omega)
theorem fill_run {ι : Inj} {place : Nat → Option (Nat × Nat)} : ∀ {parts parts' : List (Nat × Value)} {z cs : List Value} {z' : Array Value}, fillL place z parts = some cs → LRel ι z z'.toList →
  parts.map (·.1) = parts'.map (·.1) → LRel ι (parts.map (·.2)) (parts'.map (·.2)) → ∃ cs' : Array Value, Instr.fill place z' parts' = some cs' ∧ LRel ι cs cs'.toList
 | [], [], z, cs, z', h, hz, _, _ => by cases h; exact ⟨z', rfl, hz⟩
 | [], _ :: _, _, _, _, _, _, h, _ => by simp at h
 | _ :: _, [], _, _, _, _, _, h, _ => by simp at h
 | (i, v) :: parts, (i', v') :: parts', z, cs, z', h, hz, he, hv => by
  simp only [List.map_cons, List.cons.injEq] at he
  obtain ⟨rfl, he⟩ := he
  cases hv with
  | cons _ _ _ _ hv ht =>
   unfold fillL at h
   split at h <;> first | cases h | skip
   rename_i off size hp
   split at h <;> first | cases h | skip
   rename_i hc
   have hlen := hv.cl.length
   have hzl := hz.length
   simp at hzl
   have hsz : v'.cells.size = size := by rw [← hc.1, hlen, ← cl_eq]; simp
   have hset := fold_set z' off v'.cells.toList 0 (by simp [hsz]; omega)
   simp only [Nat.add_zero, cl_eq, ← hlen, hc.1] at hset
   have hz2 : LRel ι (z.take off ++ Ax.cl v ++ z.drop (off + size)) ((v'.cells.zipIdx.foldl (fun cs p => cs.setIfInBounds (off + p.2) p.1) z')).toList := by
    have h0 : (v'.cells.zipIdx.foldl (fun cs p => cs.setIfInBounds (off + p.2) p.1) z') = ((Ax.cl v').zipIdx 0).foldl (fun cs p => cs.setIfInBounds (off + p.2) p.1) z' := by
     rw [← cl_eq, ← Array.foldl_toList]
     simp
    rw [h0, hset]
    exact ((hz.take off).append hv.cl).append (hz.drop _)
   obtain ⟨cs', h1, h2⟩ := fill_run h hz2 he ht
   refine ⟨cs', ?_, h2⟩
   unfold Instr.fill
   simp only [hp]
   rw [if_neg (by simp [hsz]; omega)]
   exact h1
theorem places_run : ∀ {fs : List Field} {pl : List (Nat × Nat)}, placesOf P fs = some pl → ∀ w, (fs.mapM fun f => Prod.mk f.offset <$> sizeOf f.type : Sem (List (Nat × Nat))).run P w = .ok pl w
 | [], pl, h, w => by cases h; rfl
 | f :: fs, pl, h, w => by
  unfold placesOf at h
  split at h <;> cases h
  rename_i s l hs hl
  simp [List.mapM_cons, run_size hs, places_run hl]
theorem parts_fst {ρ ρ' : Operand → Value} (l : List (Nat × Operand)) : (l.map fun p => (p.1, ρ p.2)).map (·.1) = (l.map fun p => (p.1, ρ' p.2)).map (·.1) := by simp
theorem pure_build {t : TypeId} {parts : Array (Nat × Operand)} (ho : o.op = .build t parts) (hv : abuild P t (parts.toList.map fun p => (p.1, ρ p.2)) = some v) : PureA P o ρ v := by
 intro ι ρ' hr
 have hps : LRel ι ((parts.toList.map fun p => (p.1, ρ p.2)).map (·.2)) ((parts.toList.map fun p => (p.1, ρ' p.2)).map (·.2)) := by
  have : ∀ l : List (Nat × Operand), (∀ p ∈ l, VRel ι (ρ p.2) (ρ' p.2)) → LRel ι ((l.map fun p => (p.1, ρ p.2)).map (·.2)) ((l.map fun p => (p.1, ρ' p.2)).map (·.2)) := by
   intro l
   induction l with
   | nil => exact fun _ => .nil
   | cons p l ih => exact fun h => .cons _ _ _ _ (h p (by simp)) (ih fun q hq => h q (by simp [hq]))
  refine this _ fun p hp => hr p.2 ?_
  rw [ho]
  simp only [Op.operands]
  exact Array.mem_def.2 (by simpa using ⟨p.1, by simpa using hp⟩)
 have hm : (parts.map fun (i, x) => (i, ρ' x)).toList = parts.toList.map fun p => (p.1, ρ' p.2) := by simp
 unfold abuild at hv
 split at hv <;> first | cases hv | skip
 ·rename_i fs hu
  obtain ⟨z, hz, hv⟩ := Option.bind_eq_some_iff.1 hv
  have hzf := zero_flat hz
  obtain ⟨pl, hpl, hv⟩ := Option.bind_eq_some_iff.1 hv
  obtain ⟨cs, hcs, rfl⟩ := Option.map_eq_some_iff.1 hv
  obtain ⟨z', hz1, hz2⟩ := run_zero (P := P) hz default
  obtain ⟨cs', h1, h2⟩ := fill_run (z' := z'.cells) hcs (by rw [hz1]; exact LRel.of_flat hzf) (parts_fst _) hps
  refine ⟨.agg cs', .agg _ _ h2, fun w => ?_⟩
  obtain ⟨z'', hz1', hz2'⟩ := run_zero (P := P) hz w
  have hzz : z''.cells = z'.cells := by apply Array.ext'; rw [hz1, hz1']
  have hpl' : (fs.mapM fun f => (do pure (f.offset, ← sizeOf f.type) : Sem (Nat × Nat))).run P w = .ok ⟨pl⟩ w := by
   have := places_run hpl w
   have e : fs = ⟨fs.toList⟩ := by simp
   rw [e, List.mapM_toArray]
   simp [this]
  have h1' : Instr.fill (fun x => (⟨pl⟩ : Array (Nat × Nat))[x]?) z'.cells (parts.toList.map fun p => (p.1, ρ' p.2)) = some cs' := by
   rw [← h1]; congr 1; funext i; simp
  simp only [execOp, ho, Instr.build, hm, Sem.run_bind, hz2', Result.andThen_ok, run_underlying hu, hpl', hzz, h1', Sem.run_pure]
 ·rename_i n e hu
  obtain ⟨z, hz, hv⟩ := Option.bind_eq_some_iff.1 hv
  have hzf := zero_flat hz
  obtain ⟨s, hs, hv⟩ := Option.bind_eq_some_iff.1 hv
  obtain ⟨cs, hcs, rfl⟩ := Option.map_eq_some_iff.1 hv
  obtain ⟨z', hz1, hz2⟩ := run_zero (P := P) hz default
  obtain ⟨cs', h1, h2⟩ := fill_run (z' := z'.cells) hcs (by rw [hz1]; exact LRel.of_flat hzf) (parts_fst _) hps
  refine ⟨.agg cs', .agg _ _ h2, fun w => ?_⟩
  obtain ⟨z'', hz1', hz2'⟩ := run_zero (P := P) hz w
  have hzz : z''.cells = z'.cells := by apply Array.ext'; rw [hz1, hz1']
  simp only [execOp, ho, Instr.build, hm, Sem.run_bind, hz2', Result.andThen_ok, run_underlying hu, run_size hs, hzz, h1, Sem.run_pure]
theorem pure_strcut {t : TypeId} {x : Operand} {lo hi : Option Operand} (ho : o.op = .slice t x lo hi none) (hv : astrcut P t (ρ x) (lo.map ρ) (hi.map ρ) = some v) : PureA P o ρ v := by
 intro ι ρ' hr
 have h1 := hr x (by rw [ho]; simp [Op.operands])
 unfold astrcut at hv
 split at hv <;> first | cases hv | skip
 rename_i s hu hx
 rw [hx] at h1
 have h1 := h1.string_inv
 obtain ⟨l, hl, hv⟩ := Option.bind_eq_some_iff.1 hv
 obtain ⟨h, hh, hv⟩ := Option.bind_eq_some_iff.1 hv
 by_cases hc : l ≤ h ∧ h ≤ s.size
 case neg => rw [if_neg hc] at hv; cases hv
 rw [if_pos hc] at hv
 obtain rfl := Option.some.inj hv
 refine ⟨_, .string _, fun w => ?_⟩
 have hlo : lo = none ∧ l = 0 ∨ ∃ y k, lo = some y ∧ ρ' y = .int k (l : Int) := by
  cases lo with
  | none => simp [natOf] at hl; exact .inl ⟨rfl, hl.symm⟩
  | some y => obtain ⟨k, hk⟩ := natOf_run (hr y (by rw [ho]; simp [Op.operands])) hl; exact .inr ⟨y, k, rfl, hk⟩
 have hhi : hi = none ∧ h = s.size ∨ ∃ y k, hi = some y ∧ ρ' y = .int k (h : Int) := by
  cases hi with
  | none => simp [natOf] at hh; exact .inl ⟨rfl, hh.symm⟩
  | some y => obtain ⟨k, hk⟩ := natOf_run (hr y (by rw [ho]; simp [Op.operands])) hh; exact .inr ⟨y, k, rfl, hk⟩
 rcases hlo with ⟨rfl, rfl⟩ | ⟨y, k, rfl, hy⟩ <;> rcases hhi with ⟨rfl, rfl⟩ | ⟨y', k', rfl, hy'⟩
 ·simp [execOp, ho, h1, Instr.sliceAt, Instr.slice, Instr.sliceBounds, Instr.sliceBound, asIntOf, run_underlying hu]
 ·simp [execOp, ho, h1, Instr.sliceAt, Instr.slice, Instr.sliceBounds, Instr.sliceBound, asIntOf, run_underlying hu, hy', hc.2]
 ·simp [execOp, ho, h1, Instr.sliceAt, Instr.slice, Instr.sliceBounds, Instr.sliceBound, asIntOf, run_underlying hu, hy, hc.1]
 ·simp [execOp, ho, h1, Instr.sliceAt, Instr.slice, Instr.sliceBounds, Instr.sliceBound, asIntOf, run_underlying hu, hy, hy', hc.1, hc.2]
theorem pure_one {b : Builtin} {args : Array Operand} {tys : Array TypeId} {x : Operand} (ho : o.op = .call { callee := .builtin b, args, argTypes := tys }) (ha : args.toList = [x])
  (hb : ∀ (tys : Array TypeId) (ty : TypeId) (cs : Array Bool) (z : Value) (w : World), (builtin b tys ty cs #[z]).run P w = .ok (.value z) w) : PureA P o ρ (ρ x) := by
 have hargs : args = #[x] := by cases args; simp_all
 subst hargs
 intro ι ρ' hr
 exact ⟨ρ' x, hr x (by rw [ho]; simp [Op.operands, Call.operands]), fun w => by simp [execOp, ho, resolve, invoke, hb]⟩
theorem apure_sound (h : apure P ρ o.op = some v) : PureA P o ρ v := by
 generalize ho : o.op = op at h
 unfold apure at h
 split at h
 ·cases h; exact pure_move (.inl ho)
 ·cases h; exact pure_move (.inr ho)
 ·unfold pickV at h
  split at h <;> cases h
  exact pure_pick ho (by assumption)
 ·exact pure_bin ho h
 ·exact pure_un ho h
 ·unfold aconvV at h
  split at h <;> cases h
  exact pure_conv ho (by assumption) (by assumption) (by assumption)
 ·unfold aextr at h
  split at h <;> first | cases h | skip
  rename_i vs hvs
  exact pure_extract ho (vs := vs.toList) (by rw [hvs]) h
 ·unfold anil at h
  split at h <;> cases h
  exact pure_nilCheck ho (by assumption)
 ·exact pure_fieldAddr ho h
 ·exact pure_field ho h
 ·exact pure_indexAddr ho h
 ·exact pure_index ho h
 ·exact pure_strcut ho h
 ·exact pure_build ho h
 ·cases h; exact pure_makeFunc ho
 ·split at h <;> first | cases h | skip
  exact pure_len ho (by assumption) (by assumption) h
 ·split at h <;> first | cases h | skip
  rename_i x l hl
  cases l with
  | nil =>
   cases h
   exact pure_one ho hl fun tys ty cs z w => by simp [builtin, Builtin.min_]
  | cons y l =>
   refine pure_fold (f := amin2) (g := Builtin.min2) ?_ amin2_flat ho hl ?_ h
   ·intro x y z h w
    unfold amin2 at h
    split at h <;> cases h
    simp [Builtin.min2]
   ·intro tys ty cs z zs w
    simp [builtin, Builtin.min_]
 ·split at h <;> first | cases h | skip
  rename_i x l hl
  cases l with
  | nil =>
   cases h
   exact pure_one ho hl fun tys ty cs z w => by simp [builtin, Builtin.max_]
  | cons y l =>
   refine pure_fold (f := amax2) (g := Builtin.max2) ?_ amax2_flat ho hl ?_ h
   ·intro x y z h w
    unfold amax2 at h
    split at h <;> cases h
    simp [Builtin.max2]
   ·intro tys ty cs z zs w
    simp [builtin, Builtin.max_]
 ·cases h
end
def cellM (M : Mem) (b j : Nat) : Option Value := (M[b]?).bind fun B => B.cells[j]?
def cellsM (M : Mem) (b j n : Nat) : Option (List Value) := (M[b]?).bind fun B => if j + n ≤ B.cells.length then some ((B.cells.drop j).take n) else none
def aload (P : Program) (t : TypeId) (M : Mem) (b j : Nat) : Option Value := match P.underlying t with
 | some (.struct _) | some (.array _ _) => (tsz P t).bind fun n => (cellsM M b j n).map fun l => .agg ⟨l⟩
 | some _ => cellM M b j
 | none => none
section
variable {ι : Inj} {N0 : Base} {M : Mem} {w : World}
theorem BRel.cells {l : Loc} {B : Blk} (h : BRel ι N0 w l B) {j : Nat} {v : Value} (hj : B.cells[j]? = some v) : ∃ cc e f, w.heap[l.g]? = some (.cells cc e f) ∧ (∀ j v, B.cells[j]? = some v → ∃ v', cc[l.base + j]? = some v' ∧ VRel ι v v') ∧ (B.ours = true → f = (0, 0) ∧ N0 ≤ l.g ∧ l.base + B.cells.length ≤ l.lim ∧ l.lim ≤ cc.size) := by
 cases B with
 | box cs => obtain ⟨h1, h2, cc, e, h3, h4, h5, h6⟩ := h; exact ⟨cc, e, _, h3, h6, fun _ => ⟨rfl, h1, h4, h5⟩⟩
 | row o s cs =>
  cases o with
  | true => obtain ⟨h1, h2, cc, e, h3, h4, h5, h6⟩ := h; exact ⟨cc, e, _, h3, h6, fun _ => ⟨rfl, h1, h4, h5⟩⟩
  | false => obtain ⟨h1, h2, cc, e, f, h3, h6⟩ := h; exact ⟨cc, e, f, h3, h6, fun h => by simp [Blk.ours] at h⟩
 | map es => simp [Blk.cells] at hj
 | loop st pend t ps x y => simp [Blk.cells] at hj
 | dead => simp [Blk.cells] at hj
theorem MRel.cell (h : MRel ι N0 M w) {b j : Nat} {l : Loc} {v : Value} (hb : ι b = some l) (hv : cellM M b j = some v) : ∃ v', w.cell? ⟨l.g, l.base + j, none⟩ = some v' ∧ VRel ι v v' := by
 obtain ⟨B, hB, hj⟩ := Option.bind_eq_some_iff.1 hv
 obtain ⟨cc, e, f, h1, h2, _⟩ := (h.blk b B l hB hb).cells hj
 obtain ⟨v', h3, h4⟩ := h2 j v hj
 exact ⟨v', by simp [World.cell?, h1, h3], h4⟩
theorem run_loadCellsFrom (P : Program) (w : World) (a : Addr) : ∀ (n i : Nat) (acc : Array Value) (ys : List Value), ys.length = n → (∀ k v, ys[k]? = some v → w.cell? (a.add (i + k)) = some v) → (loadCellsFrom a i n acc).run P w = .ok (acc ++ ys.toArray) w
 | 0, i, acc, ys, hn, _ => by
  obtain rfl : ys = [] := List.eq_nil_of_length_eq_zero hn
  simp [loadCellsFrom]
 | n + 1, i, acc, [], hn, _ => by simp at hn
 | n + 1, i, acc, y :: ys, hn, h => by
  have h0 := h 0 y rfl
  simp only [Nat.add_zero] at h0
  have := run_loadCellsFrom P w a n (i + 1) (acc.push y) ys (by simpa using hn) (fun k v hk => by
   have := h (k + 1) v (by simpa using hk)
   rwa [show i + (k + 1) = i + 1 + k by omega] at this)
  simp [loadCellsFrom, h0, this]
theorem MRel.loadCells (h : MRel ι N0 M w) (P : Program) {b j n : Nat} {l : Loc} {xs : List Value} (hb : ι b = some l) (hv : cellsM M b j n = some xs) : ∃ ys, LRel ι xs ys ∧ (loadCells ⟨l.g, l.base + j, none⟩ n).run P w = .ok ys.toArray w := by
 obtain ⟨B, hB, hj⟩ := Option.bind_eq_some_iff.1 hv
 split at hj <;> cases hj
 rename_i hle
 by_cases hn : n = 0
 ·subst hn
  exact ⟨[], by simpa using LRel.nil, by simp [Go.loadCells, loadCellsFrom]⟩
 ·have hex : ∃ v, B.cells[j]? = some v := ⟨_, List.getElem?_eq_getElem (by omega)⟩
  obtain ⟨v0, hv0⟩ := hex
  obtain ⟨cc, e, f, h1, h2, _⟩ := (h.blk b B l hB hb).cells hv0
  have hlen : l.base + j + n ≤ cc.size := by
   obtain ⟨u, hu⟩ : ∃ v, B.cells[j + n - 1]? = some v := ⟨_, List.getElem?_eq_getElem (by omega)⟩
   obtain ⟨v', h3, _⟩ := h2 _ u hu
   have := (Array.getElem?_eq_some_iff.1 h3).1
   omega
  refine ⟨(cc.toList.drop (l.base + j)).take n, ?_, ?_⟩
  ·refine LRel.of_get (by simp; omega) fun k v hk => ?_
   rw [List.getElem?_take] at hk
   split at hk <;> first | cases hk | skip
   rename_i hkn
   rw [List.getElem?_drop] at hk
   obtain ⟨v', h3, h4⟩ := h2 _ v hk
   refine ⟨v', ?_, h4⟩
   rw [List.getElem?_take, if_pos hkn, List.getElem?_drop, Nat.add_assoc]
   simpa using h3
  ·have := run_loadCellsFrom P w ⟨l.g, l.base + j, none⟩ n 0 #[] ((cc.toList.drop (l.base + j)).take n) (by simp; omega) (fun k v hk => by
    rw [List.getElem?_take] at hk
    split at hk <;> first | cases hk | skip
    rw [List.getElem?_drop] at hk
    rw [addr_add]
    simp only [World.cell?, h1, Nat.zero_add]
    simpa using hk)
   simpa [Go.loadCells] using this
end
section
variable {P : Program} {o : Oper} {ρ : Operand → Value} {v : Value} {M : Mem} {K : Value → Mem → Prop}
theorem loadVar_run {ι : Inj} {N0 : Base} {w : World} (hm : MRel ι N0 M w) {t : TypeId} {b j : Nat} {l : Loc} (hb : ι b = some l) (hv : aload P t M b j = some v) : ∃ v', VRel ι v v' ∧ (loadVar t ⟨l.g, l.base + j, none⟩).run P w = .ok v' w := by
 unfold aload at hv
 split at hv
 ·rename_i fs hu
  obtain ⟨n, hn, hv⟩ := Option.bind_eq_some_iff.1 hv
  obtain ⟨xs, hxs, rfl⟩ := Option.map_eq_some_iff.1 hv
  obtain ⟨ys, h1, h2⟩ := hm.loadCells P hb hxs
  exact ⟨_, .agg _ _ h1, by simp [loadVar, isAgg_run hu, run_size hn, h2]⟩
 ·rename_i n e hu
  obtain ⟨n, hn, hv⟩ := Option.bind_eq_some_iff.1 hv
  obtain ⟨xs, hxs, rfl⟩ := Option.map_eq_some_iff.1 hv
  obtain ⟨ys, h1, h2⟩ := hm.loadCells P hb hxs
  exact ⟨_, .agg _ _ h1, by simp [loadVar, isAgg_run hu, run_size hn, h2]⟩
 ·rename_i d h1 h2 hu
  obtain ⟨v', h3, h4⟩ := hm.cell hb hv
  refine ⟨v', h4, ?_⟩
  unfold loadVar
  simp only [Sem.run_bind, isAgg_run hu, Result.andThen_ok]
  cases d <;> first | (simp [h3]; done) | (exact absurd rfl (h1 _)) | (exact absurd rfl (h2 _ _))
 ·cases hv
theorem load_load {t : TypeId} {x : Operand} (ho : o.op = .load t x) {b j : Nat} (hx : ρ x = .pointer (some ⟨b, j, none⟩)) : LoadA P o ρ (fun M => aload P t M b j = some v) v := by
 intro ι N0 ρ' M w hm hv hr
 have h1 := hr x (by rw [ho]; simp [Op.operands])
 rw [hx] at h1
 generalize hz : ρ' x = z at h1
 cases h1 with
 | ptr b off l hb =>
  obtain ⟨v', h2, h3⟩ := loadVar_run hm hb hv
  exact ⟨v', h2, by simp [execOp, ho, hz, Instr.loadAt, Instr.sureAddr, h3]⟩
theorem alloc_get (w : World) (ob : Obj) : (w.alloc ob).heap[w.heap.size]? = some ob := by
 show (w.heap.push ob)[w.heap.size]? = some ob
 simp
theorem fresh_box {t : TypeId} {x : Operand} (ho : o.op = .box t x) : FreshA P o ρ (.box (cl (ρ x))) fun b => .pointer (some ⟨b, 0, none⟩) := by
 intro ι N0 ρ' b w hn hb hr
 have h1 := hr x (by rw [ho]; simp [Op.operands])
 let l : Loc := ⟨w.heap.size, 0, (ρ' x).cells.size, 1⟩
 have hub : (ι.upd b l) b = some l := by simp [Inj.upd]
 refine ⟨.cells (ρ' x).cells t, .pointer (some ⟨w.heap.size, 0, none⟩), l, ?_, rfl, ?_, ?_⟩
 ·simp [execOp, ho, Instr.box, newVar, newRow]
 ·exact .ptr b 0 l hub
 ·have hcl := h1.cl.mono (Inj.upd_le (l := l) hn)
  refine ⟨hb, rfl, (ρ' x).cells, t, alloc_get _ _, ?_, Nat.le_refl _, ?_⟩
  ·have := h1.cl.length; rw [← cl_eq (ρ' x)] at this; simp [l, this]
  ·intro j v hj
   obtain ⟨v', h2, h3⟩ := hcl.get hj
   exact ⟨v', by rw [← cl_eq] at h2; simpa [l] using h2, h3⟩
theorem fresh_alloc {t : TypeId} (ho : o.op = .alloc t) {z : List Value} (hz : tzero P t = some z) : FreshA P o ρ (.box z) fun b => .pointer (some ⟨b, 0, none⟩) := by
 intro ι N0 ρ' b w hn hb hr
 obtain ⟨zv, h1, h2⟩ := run_zero hz w
 let l : Loc := ⟨w.heap.size, 0, zv.cells.size, 1⟩
 have hub : (ι.upd b l) b = some l := by simp [Inj.upd]
 have hlen : z.length = zv.cells.size := by rw [← h1]; simp
 refine ⟨.cells zv.cells t, .pointer (some ⟨w.heap.size, 0, none⟩), l, ?_, rfl, ?_, ?_⟩
 ·simp [execOp, ho, Instr.alloc, h2, newVar, newRow]
 ·exact .ptr b 0 l hub
 ·refine ⟨hb, rfl, zv.cells, t, alloc_get _ _, by simp [l, hlen], Nat.le_refl _, ?_⟩
  intro j v hj
  have hf : flat v = true := List.all_eq_true.1 (zero_flat hz) v (List.mem_of_getElem? hj)
  exact ⟨v, by rw [← h1] at hj; simpa [l] using hj, VRel.of_flat hf⟩
def zerosOf (z : List Value) (n : Nat) : List Value := (List.replicate n z).flatten
theorem zerosOf_get {z : List Value} : ∀ {n j : Nat}, j < n * z.length → (zerosOf z n)[j]? = z[j % z.length]?
 | 0, j, h => by simp at h
 | n + 1, j, h => by
  unfold zerosOf
  rw [List.replicate_succ, List.flatten_cons]
  rcases Nat.lt_or_ge j z.length with hj | hj
  ·rw [List.getElem?_append_left hj, Nat.mod_eq_of_lt hj]
  ·rw [List.getElem?_append_right hj]
   have := zerosOf_get (z := z) (n := n) (j := j - z.length) (by rw [Nat.add_mul] at h; omega)
   unfold zerosOf at this
   rw [this]
   congr 1
   exact (Nat.mod_eq_sub_mod hj).symm
theorem zerosOf_length (z : List Value) (n : Nat) : (zerosOf z n).length = n * z.length := by
 unfold zerosOf; simp
theorem zerosOf_flat {z : List Value} (h : z.all flat = true) (n : Nat) : (zerosOf z n).all flat = true := by
 rw [List.all_eq_true]
 intro v hv
 unfold zerosOf at hv
 rw [List.mem_flatten] at hv
 obtain ⟨l, hl, hv⟩ := hv
 rw [List.mem_replicate] at hl
 rw [hl.2] at hv
 exact List.all_eq_true.1 h v hv
theorem zeros_eq {z : Value} {n : Nat} (hn : n % z.cells.size = 0) (h0 : 0 < z.cells.size) : ((Array.range n).map fun i => z.cells[i % z.cells.size]!).toList = zerosOf z.cells.toList (n / z.cells.size) := by
 have hl : z.cells.toList.length = z.cells.size := by simp
 have hnn : n / z.cells.size * z.cells.size = n := by
  have := Nat.div_add_mod n z.cells.size
  rw [hn, Nat.add_zero, Nat.mul_comm] at this
  exact this
 apply List.ext_getElem?
 intro j
 by_cases hj : j < n
 ·rw [zerosOf_get (by rw [hl, hnn]; exact hj), hl]
  have hm : j % z.cells.size < z.cells.size := Nat.mod_lt _ h0
  simp [hj, hm]
 ·have h1 : (zerosOf z.cells.toList (n / z.cells.size))[j]? = none := by
   rw [List.getElem?_eq_none_iff, zerosOf_length, hl, hnn]; omega
  rw [h1]
  simp; omega
theorem fillL_length {place : Nat → Option (Nat × Nat)} : ∀ {parts : List (Nat × Value)} {z cs : List Value}, fillL place z parts = some cs → cs.length = z.length
 | [], z, cs, h => by cases h; rfl
 | (i, v) :: parts, z, cs, h => by
  unfold fillL at h
  split at h <;> first | cases h | skip
  rename_i off size hp
  split at h <;> first | cases h | skip
  rename_i hc
  rw [fillL_length h]
  simp
  omega
def alit (P : Program) (t : TypeId) (len : Nat) (parts : List (Nat × Value)) : Option (Nat × List Value) := match P.underlying t with
 | some (.slice e) => (tsz P e).bind fun s => (tzero P e).bind fun z => if 0 < s ∧ z.length = s ∧ len * s ≤ 16777216 then (fillL (fun i => some (i * s, s)) (zerosOf z len) parts).map fun cs => (s, cs) else none
 | _ => none
theorem fresh_lit {t : TypeId} {len : Nat} {parts : Array (Nat × Operand)} (ho : o.op = .buildSlice t len parts) {s : Nat} {cs : List Value} (hv : alit P t len (parts.toList.map fun p => (p.1, ρ p.2)) = some (s, cs)) :
  FreshA P o ρ (.row true s cs) fun b => .slice (some ⟨b, 0, none⟩) len len := by
 intro ι N0 ρ' b w hn hb hr
 unfold alit at hv
 split at hv <;> first | cases hv | skip
 rename_i e hu
 obtain ⟨s', hs, hv⟩ := Option.bind_eq_some_iff.1 hv
 obtain ⟨z, hz, hv⟩ := Option.bind_eq_some_iff.1 hv
 split at hv <;> first | cases hv | skip
 rename_i hc
 obtain ⟨cs', hcs, he⟩ := Option.map_eq_some_iff.1 hv
 cases he
 have hps : LRel ι ((parts.toList.map fun p => (p.1, ρ p.2)).map (·.2)) ((parts.toList.map fun p => (p.1, ρ' p.2)).map (·.2)) := by
  have : ∀ l : List (Nat × Operand), (∀ p ∈ l, VRel ι (ρ p.2) (ρ' p.2)) → LRel ι ((l.map fun p => (p.1, ρ p.2)).map (·.2)) ((l.map fun p => (p.1, ρ' p.2)).map (·.2)) := by
   intro l
   induction l with
   | nil => exact fun _ => .nil
   | cons p l ih => exact fun h => .cons _ _ _ _ (h p (by simp)) (ih fun q hq => h q (by simp [hq]))
  refine this _ fun p hp => hr p.2 ?_
  rw [ho]
  simp only [Op.operands]
  exact Array.mem_def.2 (by simpa using ⟨p.1, by simpa using hp⟩)
 have hm : (parts.map fun (i, x) => (i, ρ' x)).toList = parts.toList.map fun p => (p.1, ρ' p.2) := by simp
 obtain ⟨zv, hz1, hz2⟩ := run_zero hz w
 have hzs : zv.cells.size = s := by rw [← hc.2.1, ← hz1]; simp
 have hzeros : ∀ zc : Array Value, (zc = #[] ∧ len * s = 0) ∨ zc = zv.cells → ((Array.range (len * s)).map fun i => zc[i % zc.size]!).toList = zerosOf z len := by
  intro zc hzc
  rcases hzc with ⟨rfl, h0⟩ | rfl
  ·have hl0 : len = 0 := by
    rcases Nat.mul_eq_zero.1 h0 with h | h
    ·exact h
    ·omega
   subst hl0
   simp [zerosOf]
  ·have h1 : len * s % zv.cells.size = 0 := by rw [hzs]; simp
   rw [zeros_eq h1 (by omega), hzs, hz1, Nat.mul_div_cancel _ hc.1]
 have hzflat := zerosOf_flat (zero_flat hz) len
 have hlen : cs.length = len * s := by rw [fillL_length hcs, zerosOf_length, hc.2.1]
 have hwork : ∀ zc : Array Value, (zc = #[] ∧ len * s = 0) ∨ zc = zv.cells → ∃ cs' : Array Value, Instr.fill (fun i => some (i * s, s)) ((Array.range (len * s)).map fun i => zc[i % zc.size]!) (parts.toList.map fun p => (p.1, ρ' p.2)) = some cs' ∧ LRel ι cs cs'.toList := by
  intro zc hzc
  exact fill_run hcs (by rw [hzeros zc hzc]; exact LRel.of_flat hzflat) (parts_fst _) hps
 obtain ⟨zc, hzc, hzrun⟩ : ∃ zc : Array Value, ((zc = #[] ∧ len * s = 0) ∨ zc = zv.cells) ∧ ((len * s = 0 ∧ zc = #[]) ∨ (len * s ≠ 0 ∧ zc = zv.cells)) := by
  by_cases h0 : len * s = 0
  ·exact ⟨#[], .inl ⟨rfl, h0⟩, .inl ⟨h0, rfl⟩⟩
  ·exact ⟨zv.cells, .inr rfl, .inr ⟨h0, rfl⟩⟩
 obtain ⟨cs', h1, h2⟩ := hwork zc hzc
 let l : Loc := ⟨w.heap.size, 0, cs'.size, s⟩
 have hub : (ι.upd b l) b = some l := by simp [Inj.upd]
 have hlen' : cs'.size = len * s := by have := h2.length; rw [hlen] at this; simpa using this.symm
 refine ⟨.cells cs' e, .slice (some ⟨w.heap.size, 0, none⟩) len len, l, ?_, rfl, ?_, ?_⟩
 ·have hbig : ¬ len * s > 2 ^ 24 := by have := hc.2.2; omega
  simp only [execOp, ho, Instr.buildSlice, Sem.run_bind, run_underlying hu, Result.andThen_ok, run_size hs, hbig, if_false, hm]
  rcases hzrun with ⟨h0, rfl⟩ | ⟨h0, rfl⟩
  ·simp only [h0, if_true, Sem.run_bind, Sem.run_pure, Result.andThen_ok] at h1 ⊢
   simp only [h1, Sem.run_bind, newRow, run_newObj, Sem.run_pure, Result.andThen_ok]
   rfl
  ·simp only [h0, if_false, Sem.run_bind, hz2, Sem.run_pure, Result.andThen_ok] at h1 ⊢
   simp only [h1, Sem.run_bind, newRow, run_newObj, Sem.run_pure, Result.andThen_ok]
   rfl
 ·refine .slice b 0 len len len l _ hub (Nat.le_refl _) (.inl rfl) (.inr ⟨rfl, ?_⟩)
  simp [l, hlen']
 ·refine ⟨hb, rfl, cs', e, alloc_get _ _, by simp [l, hlen, hlen'], by simp [l], ?_⟩
  intro j v hj
  obtain ⟨v', h3, h4⟩ := h2.get hj
  exact ⟨v', by simpa [l] using h3, h4.mono (Inj.upd_le (l := l) hn)⟩
end
theorem LRel.one {ι : Inj} : ∀ {xs ys : List Value}, LRel ι xs ys → xs.all Value.oneCell' = true → ∀ u ∈ ys, u.oneCell' = true
 | [], _, h, _, u, hu => by cases h; simp at hu
 | x :: xs, _, h, h1, u, hu => by
  cases h with
  | cons _ y _ ys h t =>
   simp at h1
   rcases List.mem_cons.1 hu with rfl | hu
   ·have := h1.1
    cases h <;> first | rfl | (simp [Value.oneCell'] at this)
   ·exact LRel.one t (by simpa using h1.2) u hu
section
variable {ι : Inj} {N0 : Base} {M : Mem} {w : World}
theorem MRel.turn (h : MRel ι N0 M w) {b : Nat} {B B' : Blk} {l : Loc} {w' : World} (hB : M[b]? = some B) (ho : B.ours = true) (hl : ι b = some l) (hw : ∀ g, g ≠ l.g → w'.heap[g]? = w.heap[g]?) (hs : w.heap.size ≤ w'.heap.size) (hB' : BRel ι N0 w' l B') : MRel ι N0 (M.set b B') w' := by
 have hbl : b < M.length := (List.getElem?_eq_some_iff.1 hB).1
 have hlb := (h.blk b B l hB hl).lt ho
 have hne : ∀ x X lx, x ≠ b → M[x]? = some X → ι x = some lx → X ≠ .dead → lx.g ≠ l.g := by
  intro x X lx hxb hx hlx hX he
  have hr := h.blk x X lx hx hlx
  by_cases hox : X.ours = true
  ·exact hxb (h.inj x b X B lx l hx hB hox ho hlx hl he)
  ·cases X with
   | box cs => simp [Blk.ours] at hox
   | row o s cs =>
    cases o with
    | true => simp [Blk.ours] at hox
    | false => have := hr.1; omega
   | map es => simp [Blk.ours] at hox
   | loop st pend t ps x y => simp [Blk.ours] at hox
   | dead => exact hX rfl
 have hget : ∀ x X, (M.set b B')[x]? = some X → (x = b ∧ X = B') ∨ (x ≠ b ∧ M[x]? = some X) := by
  intro x X hx
  by_cases e : b = x
  ·subst e; rw [List.getElem?_set_self hbl] at hx; exact .inl ⟨rfl, (Option.some.inj hx).symm⟩
  ·rw [List.getElem?_set_ne e] at hx; exact .inr ⟨fun h => e h.symm, hx⟩
 refine ⟨?_, ?_, ?_, Nat.le_trans h.base hs⟩
 ·intro x X lx hx hlx
  rcases hget x X hx with ⟨rfl, rfl⟩ | ⟨hxb, hx⟩
  ·rw [hl] at hlx
   obtain rfl := Option.some.inj hlx
   exact hB'
  ·exact (h.blk x X lx hx hlx).keep (fun _ _ h => h) fun hX => hw _ (hne x X lx hxb hx hlx hX)
 ·intro x hx
  exact h.dom x (by simpa using hx)
 ·intro x y X Y lx ly hx hy ox oy hlx hly he
  have hours : ∀ z Z lz, (M.set b B')[z]? = some Z → Z.ours = true → ι z = some lz → ∃ Z', M[z]? = some Z' ∧ Z'.ours = true := by
   intro z Z lz hz oz hlz
   rcases hget z Z hz with ⟨rfl, rfl⟩ | ⟨_, hz⟩
   ·exact ⟨B, hB, ho⟩
   ·exact ⟨Z, hz, oz⟩
  obtain ⟨X', hX', oX'⟩ := hours x X lx hx ox hlx
  obtain ⟨Y', hY', oY'⟩ := hours y Y ly hy oy hly
  exact h.inj x y X' Y' lx ly hX' hY' oX' oY' hlx hly he
theorem Ext.turn (h : MRel ι N0 M w) {b : Nat} {B B' : Blk} {l : Loc} {w' : World} (hB : M[b]? = some B) (ho : B.ours = true) (hl : ι b = some l) (hw : ∀ g, g ≠ l.g → w'.heap[g]? = w.heap[g]?) (hs : w.heap.size ≤ w'.heap.size) (h1 : w'.os = w.os) (h2 : w'.tape = w.tape) (h3 : w'.output = w.output) : Ext ι N0 M w ι (M.set b B') w' := by
 have hlb := (h.blk b B l hB hl).lt ho
 have hmk : ∀ r : Nat, w.heap[r]? = some (Obj.deferred (some [])) → w'.heap[r]? = some (Obj.deferred (some [])) := by
  intro r hr
  by_cases e : r = l.g
  ·exact absurd hr (by rw [e]; exact (h.blk b B l hB hl).noMark (by intro e; subst e; simp [Blk.ours] at ho) _)
  ·exact (hw r e).trans hr
 refine ⟨fun _ _ h => h, fun x hx hn => ⟨hn, ?_⟩, by simp, ⟨⟨h1, h2, h3, hs, fun k hk => hw k (by omega)⟩, hmk⟩⟩
 rw [List.getElem?_set_ne]
 intro e
 subst e
 rw [hl] at hn
 cases hn
end
def spl (cs : List Value) (off : Nat) (vs : List Value) : List Value := cs.take off ++ vs ++ cs.drop (off + vs.length)
theorem spl_length {cs vs : List Value} {off : Nat} (h : off + vs.length ≤ cs.length) : (spl cs off vs).length = cs.length := by
 unfold spl; simp; omega
theorem spl_one (cs : List Value) (off : Nat) (v : Value) (h : off < cs.length) : spl cs off [v] = cs.set off v := by
 unfold spl
 rw [List.set_eq_take_append_cons_drop, if_pos h]
 simp
section
variable {P : Program} {o : Oper} {ρ : Operand → Value} {v : Value} {M : Mem} {K : Value → Mem → Prop}
theorem BRel.stored {ι : Inj} {N0 : Base} {w : World} {l : Loc} {B : Blk} (h : BRel ι N0 w l B) (ho : B.ours = true) {off : Nat} {vs vs' : List Value} (hne : vs ≠ []) (hle : off + vs.length ≤ B.cells.length) (hv : LRel ι vs vs') :
  ∃ cc e, w.heap[l.g]? = some (.cells cc e (0, 0)) ∧ l.base + off + vs'.length ≤ cc.size ∧ BRel ι N0 (w.setRow l.g (cc.toList.take (l.base + off) ++ vs' ++ cc.toList.drop (l.base + off + vs'.length)).toArray) l (B.put (spl B.cells off vs)) := by
 have hlen := hv.length
 have hpos : 0 < vs.length := List.length_pos_iff.2 hne
 have hex : ∃ u, B.cells[off]? = some u := ⟨_, List.getElem?_eq_getElem (by omega)⟩
 obtain ⟨u, hu⟩ := hex
 obtain ⟨cc, e, f, h1, h2, h3⟩ := h.cells hu
 obtain ⟨rfl, hN, hlim, hlim2⟩ := h3 ho
 have hcells : ∀ (j : Nat) (x : Value), (spl B.cells off vs)[j]? = some x → ∃ x', (cc.toList.take (l.base + off) ++ vs' ++ cc.toList.drop (l.base + off + vs'.length)).toArray[l.base + j]? = some x' ∧ VRel ι x x' := by
  intro j x hx
  unfold spl at hx
  have e1 : min (l.base + off) cc.toList.length = l.base + off := Nat.min_eq_left (by simp; omega)
  have e2 : min off B.cells.length = off := Nat.min_eq_left (by omega)
  simp only [List.getElem?_toArray, List.getElem?_append, List.length_append, List.length_take, List.getElem?_take, List.getElem?_drop, e1, e2] at hx ⊢
  by_cases c1 : j < off
  ·rw [if_pos (by omega), if_pos (by omega), if_pos (by omega)] at hx ⊢
   obtain ⟨x', hx1, hx2⟩ := h2 j x hx
   exact ⟨x', by simpa using hx1, hx2⟩
  ·by_cases c2 : j < off + vs.length
   ·rw [if_pos (by omega), if_neg (by omega)] at hx ⊢
    obtain ⟨x', hx1, hx2⟩ := hv.get hx
    exact ⟨x', by rw [← hx1]; congr 1; omega, hx2⟩
   ·rw [if_neg (by omega)] at hx ⊢
    obtain ⟨x', hx1, hx2⟩ := h2 _ x hx
    refine ⟨x', ?_, hx2⟩
    rw [← hx1, ← Array.getElem?_toList]
    congr 1
    omega
 have hsz : (cc.toList.take (l.base + off) ++ vs' ++ cc.toList.drop (l.base + off + vs'.length)).toArray.size = cc.size := by
  simp
  omega
 refine ⟨cc, e, h1, by omega, ?_⟩
 have hg := setRow_heap w l.g cc (cc.toList.take (l.base + off) ++ vs' ++ cc.toList.drop (l.base + off + vs'.length)).toArray e (0, 0) h1
 have hsl := spl_length hle
 cases B with
 | box cs => exact ⟨hN, h.2.1, _, e, hg, by rw [hsl]; exact hlim, by rw [hsz]; exact hlim2, hcells⟩
 | row o s cs =>
  cases o with
  | true => exact ⟨hN, h.2.1, _, e, hg, by rw [hsl]; exact hlim, by rw [hsz]; exact hlim2, hcells⟩
  | false => simp [Blk.ours] at ho
 | map es => simp [Blk.cells] at hu
 | loop st pend t ps x y => simp [Blk.cells] at hu
 | dead => simp [Blk.ours] at ho
theorem AOp.store {t : TypeId} {x y : Operand} (ho : o.op = .store t x y) {b off n : Nat} (hx : ρ x = .pointer (some ⟨b, off, none⟩)) (hs : tsz P t = some n) {vs : List Value} (hvs : cl (ρ y) = vs) (hn : vs.length = n) (h0 : 0 < n) (h1 : vs.all Value.oneCell' = true)
  {B : Blk} (hB : M[b]? = some B) (hour : B.ours = true) (hle : off + n ≤ B.cells.length) (hk : K undef (M.set b (B.put (spl B.cells off vs)))) : AOp P o ρ M K := by
 intro ι N0 a w KC QC hor hm hc
 have hrx := hor x (by rw [ho]; simp [Op.operands])
 have hry := hor y (by rw [ho]; simp [Op.operands])
 rw [hx] at hrx
 generalize hz : a.eval x = z at hrx
 cases hrx with
 | ptr _ _ l hl =>
  have hvr := hry.cl
  rw [hvs] at hvr
  have hne : vs ≠ [] := by intro e; rw [e] at hn; simp at hn; omega
  obtain ⟨cc, e, hg, hle', hB'⟩ := (hm.blk b B l hB hl).stored hour hne (by rw [hn]; exact hle) hvr
  have hst := run_storeCells_at P l.g (l.base + off) e (cl (a.eval y)) 0 cc w hg (by simpa using hle') (hvr.one h1)
  have hlen : (cl (a.eval y)).length = n := by rw [← hn]; exact hvr.length.symm
  simp only [Nat.add_zero] at hst
  unfold Oper.wp
  have hcs : (a.eval y).cells.size = n := by rw [← hlen, ← cl_eq]; simp
  have hrun : (execOp a.eval o).run P w = .ok .skip (w.setRow l.g (cc.toList.take (l.base + off) ++ cl (a.eval y) ++ cc.toList.drop (l.base + off + (cl (a.eval y)).length)).toArray) := by
   simp only [execOp, ho, hz, Instr.storeAt, Instr.sureAddr, storeVar, Sem.run_bind, Sem.run_pure, Result.andThen_ok, run_size hs, hcs, ne_eq, not_true_eq_false, if_false, cl_eq, hst]
  rw [hrun]
  have hw : ∀ g, g ≠ l.g → (w.setRow l.g (cc.toList.take (l.base + off) ++ cl (a.eval y) ++ cc.toList.drop (l.base + off + (cl (a.eval y)).length)).toArray).heap[g]? = w.heap[g]? := fun g hg => setRow_other w l.g g _ hg
  exact hc undef undef _ ι _ (VRel.undef ι) (hm.turn hB hour hl hw (by simp) hB') (Ext.turn hm hB hour hl hw (by simp) rfl rfl rfl) hk
theorem AOp.call {g : Operand} {args : Array Operand} {tys : Array TypeId} (ho : o.op = .call { callee := .value g, args, argTypes := tys }) {f : FuncId} {first capt : List Value} (hg : ρ g = .func (.func f) ⟨first⟩ ⟨capt⟩)
  {R : Value → Mem → Prop} (h : CallA P f (first ++ args.toList.map ρ ++ capt) M R) (hk : ∀ v M', R v M' → K v M') : AOp P o ρ M K := by
 intro ι N0 a w KC QC hor hm hc
 obtain ⟨⟨fn, c, hf, hb, hn⟩, hcall⟩ := h
 have hrg := hor g (by rw [ho]; simp [Op.operands, Call.operands])
 have hra : LRel ι (args.toList.map ρ) (args.toList.map a.eval) := LRel.map fun x hx => hor x (by rw [ho]; simp [Op.operands, Call.operands]; exact .inr (by simpa using hx))
 rw [hg] at hrg
 generalize hz : a.eval g = z at hrg
 cases hrg with
 | func _ _ _ fs' _ cs' h1 h2 =>
  have hC := hcall ι N0 (fs' ++ args.toList.map a.eval ++ cs') w hm ((h1.append hra).append h2)
  unfold Oper.wp
  have hrun : (execOp a.eval o).run P w = .ok (.enter f (fs' ++ args.toList.map a.eval ++ cs').toArray) w := by
   have hm' : args.map a.eval = (args.toList.map a.eval).toArray := by apply Array.ext'; simp
   simp only [execOp, ho, resolve, hz, Deferred.ofValue, invoke, callFunc, Sem.run_bind, Sem.run_pure, Result.andThen_ok, run_program, hf, hb, hn, hm']
   simp
  rw [hrun]
  refine Calls.mono hC ?_
  rintro e w' ⟨v, v', M', ι', rfl, h3, h4, h5, h6⟩
  exact hc v v' M' ι' w' h3 h4 h5 (hk _ _ h6)
end
structure Sl (M : Mem) (v : Value) (s : Nat) (cs : List Value) : Prop where
 base : v = .slice none 0 0 ∨ ∃ b off n c, v = .slice (some ⟨b, off, none⟩) n c ∧ b < M.length ∧ n ≤ capLb c
 len : sln v * s = cs.length
 sz : szOk M v s
 one : cs.all Value.oneCell' = true
 cells : cs ≠ [] → cellsM M (sbk v) (sof v) cs.length = some cs
structure Own (M : Mem) (v : Value) (s : Nat) (cs : List Value) : Prop where
 sl : Sl M v s cs
 own : v = .slice none 0 0 ∨ (∃ a, v = .slice (some a) 0 0) ∨ ∃ b off n c cc, v = .slice (some ⟨b, off, none⟩) n c ∧ c ≠ 0 ∧ M[b]? = some (.row true s cc) ∧ off + cs.length = cc.length
def New (M M' : Mem) (v : Value) (s : Nat) (cs : List Value) : Prop := Own M' v s cs ∧ ∀ a n c, v = .slice (some a) n c → c ≠ 0 → M.length ≤ a.block
def Fr (M M' : Mem) (X : List Nat) : Prop := M.length ≤ M'.length ∧ ∀ b, b < M.length → b ∉ X → M'[b]? = M[b]?
def blkOf : Value → List Nat
 | .slice (some a) _ c => if c = 0 then [] else [a.block]
 | _ => []
theorem Fr.refl (M : Mem) : Fr M M [] := ⟨Nat.le_refl _, fun _ _ _ => rfl⟩
theorem Fr.trans {M M' M'' : Mem} {X Y : List Nat} (h : Fr M M' X) (k : Fr M' M'' Y) : Fr M M'' (X ++ Y) := ⟨Nat.le_trans h.1 k.1, fun b hb hn => by
 simp at hn
 exact (k.2 b (Nat.lt_of_lt_of_le hb h.1) hn.2).trans (h.2 b hb hn.1)⟩
theorem Fr.cut {M M' : Mem} {X Y : List Nat} (h : Fr M M' X) (hX : ∀ b, b ∈ X → b < M.length → b ∈ Y) : Fr M M' Y := ⟨h.1, fun b hb hn => h.2 b hb fun hx => hn (hX b hx hb)⟩
theorem Fr.push (M : Mem) (B : Blk) : Fr M (M ++ [B]) [] := ⟨by simp, fun b hb _ => List.getElem?_append_left hb⟩
theorem Fr.set (M : Mem) (b : Nat) (B : Blk) : Fr M (M.set b B) [b] := ⟨by simp, fun x hx hn => List.getElem?_set_ne (by simpa using Ne.symm (by simpa using hn))⟩
theorem Sl.isSl {M : Mem} {v : Value} {s : Nat} {cs : List Value} (h : Sl M v s cs) : isSl v = true := by
 rcases h.base with rfl | ⟨b, off, n, c, rfl, _, _⟩ <;> rfl
theorem capLb_zero : capLb 0 = 0 := rfl
theorem capLb_lt {n c : Nat} (h : n ≤ capLb c) (h0 : 0 < n) : c ≠ 0 := by
 intro e; subst e; rw [capLb_zero] at h; omega
theorem Sl.pos {M : Mem} {b off n c s : Nat} {cs : List Value} (h : Sl M (.slice (some ⟨b, off, none⟩) n c) s cs) (h0 : cs ≠ []) : c ≠ 0 := by
 have hl := h.len
 have hp := List.length_pos_iff.2 h0
 rcases h.base with he | ⟨b', off', n', c', he, _, hn⟩
 ·cases he
 ·cases he
  refine capLb_lt hn ?_
  rcases Nat.eq_zero_or_pos n with h | h
  ·subst h; simp [sln] at hl; omega
  ·exact h
theorem Sl.keep {M M' : Mem} {X : List Nat} {v : Value} {s : Nat} {cs : List Value} (h : Sl M v s cs) (f : Fr M M' X) (hv : ∀ b ∈ blkOf v, b ∉ X) : Sl M' v s cs := by
 rcases h.base with rfl | ⟨b, off, n, c, rfl, hb, hcap⟩
 ·have h0 : cs = [] := List.eq_nil_of_length_eq_zero (by have := h.len; simp [sln] at this; exact this.symm)
  exact ⟨.inl rfl, h.len, ⟨h.sz.1, fun a n c B hva => by cases hva⟩, h.one, fun hne => absurd h0 hne⟩
 ·have hbX : c ≠ 0 → b ∉ X := fun hc => hv b (by simp [blkOf, hc])
  refine ⟨.inr ⟨b, off, n, c, rfl, Nat.lt_of_lt_of_le hb f.1, hcap⟩, h.len, ⟨h.sz.1, fun a n c B hva hc0 hB => ?_⟩, h.one, fun hne => ?_⟩
  ·cases hva
   rw [f.2 b hb (hbX hc0)] at hB
   exact h.sz.2 _ _ _ B rfl hc0 hB
  ·have hc := h.cells hne
   have hbX := hbX (h.pos hne)
   unfold cellsM at hc ⊢
   rw [show sbk (.slice (some ⟨b, off, none⟩) n c) = b from rfl] at hc ⊢
   rw [f.2 b hb hbX]
   exact hc
theorem Own.keep {M M' : Mem} {X : List Nat} {v : Value} {s : Nat} {cs : List Value} (h : Own M v s cs) (f : Fr M M' X) (hv : ∀ b ∈ blkOf v, b ∉ X) : Own M' v s cs := by
 refine ⟨h.sl.keep f hv, ?_⟩
 rcases h.own with rfl | ⟨a, rfl⟩ | ⟨b, off, n, c, cc, rfl, hc, hb, hl⟩
 ·exact .inl rfl
 ·exact .inr (.inl ⟨a, rfl⟩)
 ·exact .inr (.inr ⟨b, off, n, c, cc, rfl, hc, by rw [f.2 b (List.getElem?_eq_some_iff.1 hb).1 (hv b (by simp [blkOf, hc]))]; exact hb, hl⟩)
theorem Sl.nil (M : Mem) {s : Nat} (h : 0 < s) : Sl M (.slice none 0 0) s [] := ⟨.inl rfl, by simp [sln], ⟨h, fun a n c B hv => by cases hv⟩, rfl, fun h => absurd rfl h⟩
theorem Own.nil (M : Mem) {s : Nat} (h : 0 < s) : Own M (.slice none 0 0) s [] := ⟨Sl.nil M h, .inl rfl⟩
theorem Own.row {M : Mem} {b s n c : Nat} {cs : List Value} (h0 : 0 < s) (hb : M[b]? = some (.row true s cs)) (hl : n * s = cs.length) (h1 : cs.all Value.oneCell' = true) (hc : n ≤ capLb c) : Own M (.slice (some ⟨b, 0, none⟩) n c) s cs := by
 refine ⟨⟨.inr ⟨b, 0, n, c, rfl, (List.getElem?_eq_some_iff.1 hb).1, hc⟩, by simpa [sln] using hl, ⟨h0, fun a n c B hv _ hB => ?_⟩, h1, fun _ => ?_⟩, ?_⟩
 ·cases hv
  rw [hb] at hB
  obtain rfl := Option.some.inj hB
  rfl
 ·simp [cellsM, sbk, sof, hb, Blk.cells]
 ·by_cases h0 : c = 0
  ·subst h0
   rw [capLb_zero] at hc
   obtain rfl : n = 0 := by omega
   exact .inr (.inl ⟨_, rfl⟩)
  ·exact .inr (.inr ⟨b, 0, n, c, cs, rfl, h0, hb, by simp⟩)
theorem Own.get {M : Mem} {b off n c s : Nat} {cs cc : List Value} (h : Own M (.slice (some ⟨b, off, none⟩) n c) s cs) (hb : M[b]? = some (.row true s cc)) (hl : off + cs.length = cc.length) : cc.drop off = cs := by
 by_cases h0 : cs = []
 ·subst h0; simp at hl ⊢; omega
 ·have this : cellsM M b off cs.length = some cs := h.sl.cells h0
  simp only [cellsM, hb, Option.bind_some, Blk.cells, hl, Nat.le_refl, if_true] at this
  have := Option.some.inj this
  rw [List.take_of_length_le (by simp; omega)] at this
  exact this
def tby (P : Program) (t : TypeId) : Option Nat := (P.info? t).map (·.bytes)
section
variable {P : Program} {o : Oper} {ρ : Operand → Value} {v : Value} {M : Mem} {K : Value → Mem → Prop}
theorem Sl.src {ι : Inj} {N0 : Base} {w : World} (hm : MRel ι N0 M w) {v' : Value} (hv : VRel ι v v') {s : Nat} {cs : List Value} (h : Sl M v s cs) {t e : TypeId} (ht : P.underlying t = some (.slice e)) :
  ∃ cs', LRel ι cs cs' ∧ Src P s t v' (sln v) cs' w := by
 have hlen := h.len
 rcases h.base with rfl | ⟨b, off, n, c, rfl, hb, hcap⟩
 ·cases hv
  obtain rfl : cs = [] := List.eq_nil_of_length_eq_zero (by simp [sln] at hlen; exact hlen.symm)
  exact ⟨[], .nil, Src.ofNil w ht 0⟩
 ·cases hv with
  | slice _ _ _ _ cap' l a' hbl hle hc ha =>
   simp only [sln] at hlen ⊢
   by_cases h0 : cs = []
   ·subst h0
    have hn : n = 0 := by
     rcases Nat.mul_eq_zero.1 (show n * s = 0 from hlen) with h' | h'
     ·exact h'
     ·have := h.sz.1; omega
    subst hn
    exact ⟨[], .nil, Src.ofSlice w ht a' 0 cap' [] (by simp) (by simp) (by simp)⟩
   ·have hpos := List.length_pos_iff.2 h0
    have hn0 : n ≠ 0 := by intro e; subst e; simp at hlen; omega
    obtain ⟨rfl, _⟩ := ha.resolve_left (by omega)
    have hcell : ∀ (j : Nat) (u : Value), cs[j]? = some u → cellM M b (off + j) = some u := by
     intro j u hu
     have this : cellsM M b off cs.length = some cs := h.cells h0
     unfold cellsM at this
     obtain ⟨B, hB, h2⟩ := Option.bind_eq_some_iff.1 this
     by_cases hle' : off + cs.length ≤ B.cells.length
     case neg => rw [if_neg hle'] at h2; cases h2
     rw [if_pos hle'] at h2
     have h2 := Option.some.inj h2
     simp only [cellM, hB, Option.bind_some]
     rw [← h2, List.getElem?_take, List.getElem?_drop] at hu
     split at hu
     ·exact hu
     ·cases hu
    have hex : ∀ (j : Nat) (u : Value), cs[j]? = some u → ∃ u', w.cell? ⟨l.g, l.base + (off + j), none⟩ = some u' ∧ VRel ι u u' := fun j u hu => hm.cell hbl (hcell j u hu)
    -- the cells, one by one
    have hall : ∀ k, k ≤ cs.length → ∃ ys : List Value, ys.length = k ∧ LRel ι (cs.take k) ys ∧ ∀ (j : Nat) (u : Value), ys[j]? = some u → w.cell? ⟨l.g, l.base + (off + j), none⟩ = some u := by
     intro k
     induction k with
     | zero => exact fun _ => ⟨[], rfl, by simpa using LRel.nil, by simp⟩
     | succ k ih =>
      intro hk
      obtain ⟨ys, h1, h2, h3⟩ := ih (by omega)
      have hget : cs[k]? = some cs[k] := List.getElem?_eq_getElem (by omega)
      obtain ⟨u', h4, h5⟩ := hex k _ hget
      refine ⟨ys ++ [u'], by simp [h1], ?_, ?_⟩
      ·rw [List.take_add_one, hget]
       exact h2.append (.cons _ _ _ _ h5 .nil)
      ·intro j u hu
       rcases Nat.lt_or_ge j k with hlt | hge
       ·rw [List.getElem?_append_left (by omega)] at hu
        exact h3 j u hu
       ·rw [List.getElem?_append_right (by omega), h1] at hu
        have hjk : j - k = 0 := by
         rcases Nat.eq_zero_or_pos (j - k) with h | h
         ·exact h
         ·rw [List.getElem?_eq_none (by simp; omega)] at hu; cases hu
        rw [hjk] at hu
        simp at hu
        subst hu
        have : j = k := by omega
        subst this
        exact h4
    obtain ⟨ys, h1, h2, h3⟩ := hall cs.length (Nat.le_refl _)
    rw [List.take_length] at h2
    refine ⟨ys, h2, Src.ofSlice w ht _ n cap' ys (by rw [h1, hlen]) (fun j u hu => ?_) (h2.one h.one)⟩
    rw [addr_add, Nat.add_assoc]
    exact h3 j u hu
theorem append_grown {ι : Inj} {N0 : Base} {w : World} {M : Mem} (hm : MRel ι N0 M w) {t ty e : TypeId} (ht : P.underlying t = some (.slice e)) {i : TypeInfo} (hi : P.info? e = some i) {z : Value} (hz : i.zero = some z) (hzs : z.cells.size = i.size) {base : Option Addr} {n cap : Nat} {x : Value} {m : Nat} {cs cs' ds ds' : List Value}
  (hcs : LRel ι cs cs') (hold : (Builtin.firstCells i.size n (.slice base n cap)).run P w.drew = .ok cs'.toArray w.drew) (hl : n * i.size = cs.length) (hds : LRel ι ds ds') (hs : Src P i.size t x m ds' w) (hg : cap < n + m) (hby : (n + m) * i.bytes ≤ 140737488355328) (hb0 : 0 < i.bytes) (X : Mem) (hX : MRel ι N0 X w) :
  ∃ v' w' l, (Builtin.append_ #[t, t] ty #[.slice base n cap, x]).run P w = .ok v' w' ∧ VRel (ι.upd X.length l) (.slice (some ⟨X.length, 0, none⟩) (n + m) (capLow + (n + m))) v' ∧
   MRel (ι.upd X.length l) N0 (X ++ [.row true i.size (cs ++ ds)]) w' ∧ Low N0 w w' := by
 have h63 : ((n + m : Nat) : Int) ≤ 9223372036854775807 := by
  have : n + m ≤ 140737488355328 := Nat.le_trans (Nat.le_mul_of_pos_right _ hb0) hby
  omega
 have hrun := run_append_grow_src w t t ty e i z ht hi hz base n cap cs' hold x m ds' hs hg h63 (growslice_fits hg hby)
 have hge := grownCap_ge w (n + m) cap e
 generalize grownCap w (n + m) cap e = gc at hrun hge
 let cells : Array Value := (cs' ++ ds').toArray ++ Builtin.zeroCells z.cells (gc - (n + m))
 have hl' : cs'.length = n * i.size := by rw [← hcs.length, hl]
 have hm' : ds'.length = m * i.size := hs.newsLen
 have hsz : cells.size = gc * i.size := by
  simp only [cells, Array.size_append, List.size_toArray, List.length_append, size_zeroCells, hzs, hl', hm', ← Nat.add_mul]
  congr 1; omega
 let l : Loc := ⟨w.heap.size, 0, cells.size, i.size⟩
 have hn : ι X.length = none := hX.dom _ (Nat.le_refl _)
 have hle := Inj.upd_le (l := l) hn
 refine ⟨_, _, l, hrun, ?_, ?_, ((Low.refl _ _).drew).alloc hm.base _⟩
 ·refine .slice X.length 0 (n + m) _ gc l _ (by simp [Inj.upd]) hge (.inr ⟨by omega, by omega⟩) (.inr ⟨rfl, ?_⟩)
  simp [l, hsz]
 ·have hX' : MRel ι N0 X w.drew := ⟨fun b B l hb hl => (hX.blk b B l hb hl).keep (fun _ _ h => h) fun _ => rfl, hX.dom, hX.inj, hX.base⟩
  refine (hX'.push (.row true i.size (cs ++ ds))).lay (b := X.length) (B := .row true i.size (cs ++ ds)) (by simp) hn rfl ?_
  refine ⟨hX.base, rfl, cells, e, alloc_get w.drew _, ?_, Nat.le_refl _, ?_⟩
  ·have h1 : ds.length = m * i.size := by rw [hds.length, hm']
   show 0 + (cs ++ ds).length ≤ cells.size
   rw [hsz, List.length_append, ← hl, h1, ← Nat.add_mul, Nat.zero_add]
   exact Nat.mul_le_mul_right _ hge
  ·intro j u hj
   have hrel := (hcs.append hds).mono hle
   obtain ⟨u', h1, h2⟩ := hrel.get hj
   refine ⟨u', ?_, h2⟩
   have hjl := (List.getElem?_eq_some_iff.1 h1).1
   simp only [l, Nat.zero_add, cells]
   rw [Array.getElem?_append_left (by simpa using hjl)]
   simpa using h1
end
section
variable {P : Program} {o : Oper} {ρ : Operand → Value} {v : Value} {M : Mem} {K : Value → Mem → Prop}
theorem bytes_pos_of {P : Program} {e : TypeId} {by_ : Nat} (h : tby P e = some by_) : ∃ i, P.info? e = some i ∧ i.bytes = by_ := Option.map_eq_some_iff.1 h
theorem MRel.kill {ι : Inj} {N0 : Base} {w : World} (h : MRel ι N0 M w) (b : Nat) : MRel ι N0 (M.set b Blk.dead) w := by
 have hget : ∀ (x : Nat) (X : Blk), (M.set b Blk.dead)[x]? = some X → X = Blk.dead ∨ M[x]? = some X := by
  intro x X hx
  by_cases e : b = x
  ·subst e
   have hlt : b < M.length := by have := (List.getElem?_eq_some_iff.1 hx).1; simpa using this
   rw [List.getElem?_set_self hlt] at hx; exact .inl (Option.some.inj hx).symm
  ·rw [List.getElem?_set_ne e] at hx; exact .inr hx
 refine ⟨fun x X l hx hl => ?_, fun x hx => h.dom x (by simpa using hx), fun x y X Y lx ly hx hy ox oy hlx hly he => ?_, h.base⟩
 ·rcases hget x X hx with rfl | hx
  ·trivial
  ·exact h.blk x X l hx hl
 ·rcases hget x X hx with rfl | hx
  ·simp [Blk.ours] at ox
  ·rcases hget y Y hy with rfl | hy
   ·simp [Blk.ours] at oy
   ·exact h.inj x y X Y lx ly hx hy ox oy hlx hly he
theorem capLb_add (n : Nat) : n ≤ capLb (capLow + n) := by unfold capLb; split <;> omega
theorem AOp.append {t e : TypeId} {x y : Operand} (ho : o.op = .call { callee := .builtin .append, args := #[x, y], argTypes := #[t, t] }) (ht : P.underlying t = some (.slice e)) {s bt : Nat} {z : List Value} (hs : tsz P e = some s) (hz : tzero P e = some z) (hzl : z.length = s) (hbt : tby P e = some bt) (hb0 : 0 < bt)
  {cs ds : List Value} (hx : Own M (ρ x) s cs) (hy : Sl M (ρ y) s ds) (hby : (sln (ρ x) + sln (ρ y)) * bt ≤ 140737488355328)
  (hk : ∀ v' M', New M M' v' s (cs ++ ds) → sln v' = sln (ρ x) + sln (ρ y) → Fr M M' (blkOf (ρ x)) → K v' M') : AOp P o ρ M K := by
 intro ι N0 a w KC QC hor hm hc
 have hrx := hor x (by rw [ho]; simp [Op.operands, Call.operands])
 have hry := hor y (by rw [ho]; simp [Op.operands, Call.operands])
 obtain ⟨i, hi, rfl⟩ := bytes_pos_of hbt
 obtain rfl : i.size = s := by unfold tsz at hs; rw [hi] at hs; simpa using hs
 obtain ⟨zv, hzv, hzv2⟩ : ∃ zv, i.zero = some zv ∧ zv.cells.toList = z := by
  unfold tzero at hz
  rw [hi] at hz
  simp only [Option.bind_some] at hz
  obtain ⟨zv, h1, h2⟩ := Option.bind_eq_some_iff.1 hz
  split at h2 <;> cases h2
  exact ⟨zv, h1, rfl⟩
 have hzs : zv.cells.size = i.size := by rw [← hzl, ← hzv2]; simp
 obtain ⟨ds', hds, hsrc⟩ := hy.src hm hry ht
 have hdl : ds.length = sln (ρ y) * i.size := hy.len.symm
 have hs0 := hx.sl.sz.1
 have hexec : ∀ r, (Builtin.append_ #[t, t] o.type #[a.eval x, a.eval y]).run P w = r → (execOp a.eval o).run P w = r.andThen fun v w' => .ok (.value v) w' := by
  intro r hr
  simp [execOp, ho, resolve, invoke, builtin, hr]
 have hone : (cs ++ ds).all Value.oneCell' = true := by rw [List.all_append, hx.sl.one, hy.one]; rfl
 rcases hx.own with hxe | ⟨a0, hxe⟩ | ⟨b, off, n, c, cc, hxe, hcz, hB, hend⟩
 ·-- nothing yet
  rw [hxe] at hrx hx hby hk
  obtain rfl : cs = [] := List.eq_nil_of_length_eq_zero (by have := hx.sl.len; simp [sln] at this; exact this.symm)
  have hx' : a.eval x = .slice none 0 0 := by generalize a.eval x = q at hrx; cases hrx; rfl
  by_cases hm0 : sln (ρ y) = 0
  ·have hd0 : ds = [] := List.eq_nil_of_length_eq_zero (by rw [hdl, hm0]; simp)
   subst hd0
   have hd0' : ds' = [] := List.eq_nil_of_length_eq_zero (by rw [← hds.length]; rfl)
   subst hd0'
   have hrun : (Builtin.append_ #[t, t] o.type #[a.eval x, a.eval y]).run P w = .ok (.slice none 0 0) w := by
    rw [hx']
    have hl := hsrc.len
    rw [hm0] at hl
    have hc0 := hsrc.cells
    rw [hm0] at hc0
    simp [Builtin.append_, run_underlying ht, sizeOf, typeInfo, hi, hl, hc0]
   unfold Oper.wp
   rw [hexec _ hrun]
   exact hc _ _ M ι w .sliceNil hm (Ext.refl _ _ _ _) (hk _ M ⟨Own.nil M hs0, fun a n c h _ => by cases h⟩ (by show 0 = 0 + sln (ρ y); omega) ((Fr.refl M).cut (by simp)))
  ·obtain ⟨v', w', l, h1, h2, h3, h4⟩ := append_grown (ty := o.type) hm ht hi hzv hzs (base := none) (n := 0) (cap := 0) (cs := []) (cs' := []) .nil (by simp [Builtin.firstCells]) (by simp) hds hsrc (by omega) (by simpa [sln] using hby) hb0 M hm
   rw [← hx'] at h1
   have hn := hm.dom M.length (Nat.le_refl _)
   unfold Oper.wp
   rw [hexec _ h1]
   refine hc _ _ _ _ _ h2 h3 ⟨Inj.upd_le hn, fun x hx hn' => ⟨by unfold Inj.upd; rw [if_neg (by omega)]; exact hn', List.getElem?_append_left hx⟩, by simp, h4⟩ (hk _ _ ⟨Own.row hs0 (by simp) (by simp [hdl]) hone (capLb_add _), fun a n c h _ => by cases h; exact Nat.le_refl _⟩ (by show 0 + sln (ρ y) = 0 + sln (ρ y); rfl) ((Fr.push M _).cut (by simp)))
 ·-- no capacity
  rw [hxe] at hrx hx hby hk
  obtain rfl : cs = [] := List.eq_nil_of_length_eq_zero (by have := hx.sl.len; simp [sln] at this; exact this.symm)
  obtain ⟨a', hx'⟩ : ∃ a', a.eval x = .slice (some a') 0 0 := by
   generalize a.eval x = q at hrx
   cases hrx with
   | slice _ _ _ _ cap' l a' hbl hle hcap ha =>
    rcases hcap with h | ⟨h, _⟩
    ·subst h; exact ⟨a', rfl⟩
    ·simp [capLow] at h
  by_cases hm0 : sln (ρ y) = 0
  ·have hd0 : ds = [] := List.eq_nil_of_length_eq_zero (by rw [hdl, hm0]; simp)
   subst hd0
   have hd0' : ds' = [] := List.eq_nil_of_length_eq_zero (by rw [← hds.length]; rfl)
   subst hd0'
   have hrun : (Builtin.append_ #[t, t] o.type #[a.eval x, a.eval y]).run P w = .ok (a.eval x) w := by
    rw [hx']
    have hl := hsrc.len
    rw [hm0] at hl
    have hc0 := hsrc.cells
    rw [hm0] at hc0
    simp [Builtin.append_, run_underlying ht, sizeOf, typeInfo, hi, hl, hc0, storeCells]
   unfold Oper.wp
   rw [hexec _ hrun]
   exact hc _ _ M ι w hrx hm (Ext.refl _ _ _ _) (hk _ M ⟨hx, fun a n c h hc => by cases h; exact absurd rfl hc⟩ (by show 0 = 0 + sln (ρ y); omega) ((Fr.refl M).cut (by simp)))
  ·obtain ⟨v', w', l, h1, h2, h3, h4⟩ := append_grown (ty := o.type) hm ht hi hzv hzs (base := some a') (n := 0) (cap := 0) (cs := []) (cs' := []) .nil (by simp [Builtin.firstCells, loadCells, loadCellsFrom]) (by simp) hds hsrc (by omega) (by simpa [sln] using hby) hb0 M hm
   rw [← hx'] at h1
   have hn := hm.dom M.length (Nat.le_refl _)
   unfold Oper.wp
   rw [hexec _ h1]
   refine hc _ _ _ _ _ h2 h3 ⟨Inj.upd_le hn, fun x hx hn' => ⟨by unfold Inj.upd; rw [if_neg (by omega)]; exact hn', List.getElem?_append_left hx⟩, by simp, h4⟩ (hk _ _ ⟨Own.row hs0 (by simp) (by simp [hdl]) hone (capLb_add _), fun a n c h _ => by cases h; exact Nat.le_refl _⟩ (by show 0 + sln (ρ y) = 0 + sln (ρ y); rfl) ((Fr.push M _).cut (by simp)))
 ·rw [hxe] at hrx hx hby hk
  generalize hqx : a.eval x = q at hrx hexec
  cases hrx with
  | slice _ _ _ _ cap' l a' hbl hle hcap ha =>
   have hlen : n * i.size = cs.length := hx.sl.len
   have hBR := hm.blk b _ l hB hbl
   obtain ⟨hN, hsz, cc', e', hh, hlim, hlim2, hcell⟩ := hBR
   have hblt : b < M.length := (List.getElem?_eq_some_iff.1 hB).1
   by_cases hroom : n + sln (ρ y) ≤ cap'
   ·-- in its place
    have hdrop := hx.get hB hend
    have hend' := hend
    have hlt : b ≠ M.length := by omega
    have hn := hm.dom M.length (Nat.le_refl _)
    let l' : Loc := ⟨l.g, l.base + off, l.lim, l.sz⟩
    have hi' := Inj.upd_le (l := l') hn
    -- what it writes
    have hwork : ∃ w', (Builtin.append_ #[t, t] o.type #[.slice (some a') n cap', a.eval y]).run P w = .ok (.slice (some a') (n + sln (ρ y)) cap') w' ∧ w'.os = w.os ∧ w'.tape = w.tape ∧ w'.output = w.output ∧ w'.heap.size = w.heap.size ∧ (∀ g, g ≠ l.g → w'.heap[g]? = w.heap[g]?) ∧
      BRel (ι.upd M.length l') N0 w' l' (.row true i.size (cs ++ ds)) := by
     by_cases hd0 : ds = []
     ·subst hd0
      have hd0' : ds' = [] := List.eq_nil_of_length_eq_zero (by rw [← hds.length]; rfl)
      subst hd0'
      have hm0 : sln (ρ y) = 0 := by
       rcases Nat.mul_eq_zero.1 (show sln (ρ y) * i.size = 0 by rw [← hdl]; rfl) with h | h
       ·exact h
       ·omega
      refine ⟨w, ?_, rfl, rfl, rfl, rfl, fun _ _ => rfl, ?_⟩
      ·have hr1 := hsrc.cells
       simp [Builtin.append_, run_underlying ht, sizeOf, typeInfo, hi, hsrc.len, hr1, storeCells, show n + sln (ρ y) ≤ cap' by omega]
      ·refine ⟨hN, hsz, cc', e', hh, ?_, hlim2, ?_⟩
       ·simp [l', hend'] at hlim ⊢; omega
       ·intro j u hj
        rw [List.append_nil, ← hdrop, List.getElem?_drop] at hj
        obtain ⟨u', h1, h2⟩ := hcell _ u hj
        exact ⟨u', by simp only [l']; rw [Nat.add_assoc]; exact h1, h2.mono hi'⟩
     ·have hm0 : 0 < sln (ρ y) := by
       rcases Nat.eq_zero_or_pos (sln (ρ y)) with h | h
       ·rw [h] at hdl; simp at hdl; exact absurd hdl hd0
       ·exact h
      obtain ⟨rfl, hbound⟩ := ha.resolve_left (by omega)
      rw [hsz] at hbound
      have hfit : l.base + off + n * i.size + ds'.length ≤ cc'.size := by
       have h1 : ds'.length = sln (ρ y) * i.size := hsrc.newsLen
       have h2 : (n + sln (ρ y)) * i.size ≤ cap' * i.size := Nat.mul_le_mul_right _ hroom
       rw [Nat.add_mul] at h2
       omega
      have hst := run_storeCells_at P l.g (l.base + off + n * i.size) e' ds' 0 cc' w hh (by simpa using hfit) (hds.one hy.one)
      simp only [Nat.add_zero] at hst
      refine ⟨w.setRow l.g (cc'.toList.take (l.base + off + n * i.size) ++ ds' ++ cc'.toList.drop (l.base + off + n * i.size + ds'.length)).toArray, ?_, rfl, rfl, rfl, by simp, fun g hg => setRow_other w l.g g _ hg, ?_⟩
      ·simp [Builtin.append_, run_underlying ht, sizeOf, typeInfo, hi, hsrc.len, hsrc.cells, hroom, addr_add, hst]
      ·refine ⟨hN, hsz, _, e', setRow_heap w l.g cc' _ e' (0, 0) hh, ?_, ?_, ?_⟩
       ·have h1 : ds.length = ds'.length := hds.length
        simp only [l', List.length_append]
        have h2 : (n + sln (ρ y)) * i.size ≤ cap' * i.size := Nat.mul_le_mul_right _ hroom
        rw [Nat.add_mul] at h2
        omega
       ·simp only [l', List.size_toArray, List.length_append, List.length_take, List.length_drop, Array.length_toList]
        omega
       ·intro j u hj
        simp only [l']
        have e1 : min (l.base + off + n * i.size) cc'.toList.length = l.base + off + n * i.size := Nat.min_eq_left (by simp; omega)
        simp only [List.getElem?_toArray, List.getElem?_append, List.length_append, List.length_take, List.getElem?_take, e1]
        rcases Nat.lt_or_ge j cs.length with hj1 | hj1
        ·rw [List.getElem?_append_left hj1, ← hdrop, List.getElem?_drop] at hj
         obtain ⟨u', h1, h2⟩ := hcell _ u hj
         refine ⟨u', ?_, h2.mono hi'⟩
         rw [if_pos (by omega), if_pos (by omega), if_pos (by omega)]
         rw [Nat.add_assoc]; simpa using h1
        ·rw [List.getElem?_append_right hj1] at hj
         obtain ⟨u', h1, h2⟩ := hds.get hj
         have hjl := (List.getElem?_eq_some_iff.1 h1).1
         refine ⟨u', ?_, h2.mono hi'⟩
         rw [if_pos (by omega), if_neg (by omega), ← h1]
         congr 1; omega
    obtain ⟨w', hrun, k1, k2, k3, k4, k5, k6⟩ := hwork
    unfold Oper.wp
    rw [hexec _ hrun]
    have hM1 : MRel ι N0 (M.set b .dead) w' := by
     refine hm.turn hB rfl hbl k5 (by omega) trivial
    refine hc (.slice (some ⟨M.length, 0, none⟩) (n + sln (ρ y)) (capLow + (n + sln (ρ y)))) _ (M.set b .dead ++ [.row true i.size (cs ++ ds)]) (ι.upd M.length l') w' ?_ ?_ ?_ ?_
    ·refine .slice M.length 0 _ _ cap' l' a' (by simp [Inj.upd]) hroom (.inr ⟨by omega, by omega⟩) ?_
     rcases ha with ha | ⟨rfl, hbound⟩
     ·exact .inl ha
     ·exact .inr ⟨by simp [l'], by simpa [l'] using hbound⟩
    ·-- the new row in the old one's place
     have hlen' : (M.set b .dead).length = M.length := by simp
     have hP := hM1.push (.row true i.size (cs ++ ds))
     have hnew : (M.set b .dead ++ [Blk.row true i.size (cs ++ ds)])[M.length]? = some (.row true i.size (cs ++ ds)) := by rw [← hlen']; simp
     refine ⟨?_, ?_, ?_, hP.base⟩
     ·intro y Y ly hy hly
      unfold Inj.upd at hly
      by_cases ey : y = M.length
      ·subst ey
       rw [if_pos rfl] at hly
       obtain rfl := Option.some.inj hly
       rw [hnew] at hy
       obtain rfl := Option.some.inj hy
       exact k6
      ·rw [if_neg ey] at hly
       exact (hP.blk y Y ly hy hly).keep hi' fun _ => rfl
     ·intro y hy
      unfold Inj.upd
      simp at hy
      rw [if_neg (by omega)]
      exact hm.dom y (by omega)
     ·intro y y' Y Y' ly ly' hy hy' oy oy' hly hly' he
      have key : ∀ y Y ly, (M.set b .dead ++ [Blk.row true i.size (cs ++ ds)])[y]? = some Y → Y.ours = true → y ≠ M.length → ι y = some ly → ly.g ≠ l.g := by
       intro y Y ly hy oy hne hly hg
       have hylt : y < (M.set b .dead).length := by
        have := (List.getElem?_eq_some_iff.1 hy).1
        simp at this ⊢; omega
       rw [List.getElem?_append_left hylt] at hy
       by_cases eb : b = y
       ·subst eb
        rw [List.getElem?_set_self hblt] at hy
        obtain rfl := Option.some.inj hy
        simp [Blk.ours] at oy
       ·rw [List.getElem?_set_ne eb] at hy
        exact eb (hm.inj b y _ Y l ly hB hy rfl oy hbl hly hg.symm)
      unfold Inj.upd at hly hly'
      by_cases ey : y = M.length <;> by_cases ey' : y' = M.length
      ·rw [ey, ey']
      ·rw [if_pos ey] at hly; rw [if_neg ey'] at hly'
       obtain rfl := Option.some.inj hly
       exact absurd he.symm (key y' Y' ly' hy' oy' ey' hly')
      ·rw [if_neg ey] at hly; rw [if_pos ey'] at hly'
       obtain rfl := Option.some.inj hly'
       exact absurd he (key y Y ly hy oy ey hly)
      ·rw [if_neg ey] at hly; rw [if_neg ey'] at hly'
       exact hP.inj y y' Y Y' ly ly' hy hy' oy oy' hly hly' he
    ·refine ⟨hi', fun y hy hny => ?_, by simp, (Ext.turn (B' := .dead) hm hB rfl hbl k5 (by omega) k1 k2 k3).below⟩
     refine ⟨by unfold Inj.upd; rw [if_neg (by omega)]; exact hny, ?_⟩
     rw [List.getElem?_append_left (by simpa using hy), List.getElem?_set_ne]
     intro e; subst e; rw [hbl] at hny; cases hny
    ·refine hk _ _ ⟨Own.row hs0 (by rw [← show (M.set b Blk.dead).length = M.length by simp]; simp) (by simp [hdl, Nat.add_mul, hlen]) hone (capLb_add _), fun a n c h _ => by cases h; exact Nat.le_refl _⟩ rfl ⟨by simp, fun y hy hn => ?_⟩
     rw [List.getElem?_append_left (by simpa using hy), List.getElem?_set_ne]
     exact fun e => hn (by subst e; simp [blkOf, hcz])
   ·-- in a new one
    have hcs : ∃ cs', LRel ι cs cs' ∧ (Builtin.firstCells i.size n (.slice (some a') n cap')).run P w.drew = .ok cs'.toArray w.drew := by
     obtain ⟨cs', h1, h2⟩ := hx.sl.src hm (.slice b off n c cap' l a' hbl hle hcap ha) ht
     exact ⟨cs', h1, h2.cellsD⟩
    obtain ⟨cs', hcs, hold⟩ := hcs
    obtain ⟨v', w', l2, h1, h2, h3, h4⟩ := append_grown (ty := o.type) hm ht hi hzv hzs (base := some a') hcs hold hlen hds hsrc (by omega) (by simpa [sln] using hby) hb0 (M.set b .dead) (hm.kill b)
    have hn := hm.dom M.length (Nat.le_refl _)
    simp only [List.length_set] at h2 h3
    unfold Oper.wp
    rw [hexec _ h1]
    refine hc _ _ _ _ _ h2 h3 ⟨Inj.upd_le hn, fun y hy hny => ⟨by unfold Inj.upd; rw [if_neg (by omega)]; exact hny, ?_⟩, by simp, h4⟩ (hk _ _ ⟨Own.row hs0 (by rw [← show (M.set b Blk.dead).length = M.length by simp]; simp) (by simp [hdl, Nat.add_mul, hlen]) hone (capLb_add _), fun a n c h _ => by cases h; exact Nat.le_refl _⟩ rfl ⟨by simp, fun y hy hn => ?_⟩)
    ·rw [List.getElem?_append_left (by simpa using hy), List.getElem?_set_ne]
     intro e; subst e; rw [hbl] at hny; cases hny
    ·rw [List.getElem?_append_left (by simpa using hy), List.getElem?_set_ne]
     exact fun e => hn (by subst e; simp [blkOf, hcz])
end
def ptrO (v : Value) (K : Nat → Nat → Option Value) : Option Value := match v with
 | .pointer (some ⟨b, j, none⟩) => K b j
 | _ => none
def aresOne (P : Program) (t : List Value) (M : Mem) : ResultVar → Option Value
 | .tmp i => some (t.getD i undef)
 | .cell a ty => ptrO (t.getD a undef) fun b j => aload P ty M b j
def aresAll (P : Program) (t : List Value) (M : Mem) : List ResultVar → Option (List Value)
 | [] => some []
 | r :: rs => (aresOne P t M r).bind fun v => (aresAll P t M rs).map fun vs => v :: vs
def tupV : List Value → Value
 | [v] => v
 | vs => .tuple ⟨vs⟩
def ares (P : Program) (t : List Value) (M : Mem) (rs : List ResultVar) : Option Value := (aresAll P t M rs).map tupV
section
variable {P : Program} {t : List Value} {M : Mem}
def resRun (tmps : Array Value) : ResultVar → Sem Value
 | .tmp t => pure (tmps.getD t undef)
 | .cell p t => do loadVar t (← asAddr (tmps.getD p undef))
theorem results_eq (fn : Func) (tmps : Array Value) : results fn tmps = (do
  let vs ← fn.results.mapM (resRun tmps)
  pure (if h : vs.size = 1 then vs[0] else .tuple vs)) := by
 unfold results
 congr 1
theorem aresAll_run {ι : Inj} {N0 : Base} {a : Act} {w : World} (r : Rel ι N0 t M a w) : ∀ {rs : List ResultVar} {vs : List Value}, aresAll P t M rs = some vs → ∃ vs', LRel ι vs vs' ∧ (rs.mapM (resRun a.tmps)).run P w = .ok vs' w
 | [], vs, h => by cases h; exact ⟨[], .nil, rfl⟩
 | q :: rs, vs, h => by
  obtain ⟨v, h1, h2⟩ := Option.bind_eq_some_iff.1 h
  obtain ⟨vs1, h3, rfl⟩ := Option.map_eq_some_iff.1 h2
  obtain ⟨vs', h4, h5⟩ := aresAll_run r h3
  have hg : ∀ i, VRel ι (t.getD i undef) (a.tmps.getD i undef) := fun i => by have := r.tmps.getD i; simpa [Array.getD_eq_getD_getElem?, List.getD_eq_getElem?_getD] using this
  cases q with
  | tmp i =>
   cases h1
   refine ⟨a.tmps.getD i undef :: vs', .cons _ _ _ _ (hg i) h4, ?_⟩
   simp only [List.mapM_cons, Sem.run_bind, resRun, Sem.run_pure, Result.andThen_ok, h5]
  | cell p ty =>
   simp only [aresOne, ptrO] at h1
   split at h1 <;> first | cases h1 | skip
   rename_i b j hp
   have hv := hg p
   rw [hp] at hv
   generalize hz : a.tmps.getD p undef = z at hv
   cases hv with
   | ptr _ _ l hl =>
    obtain ⟨v', h6, h7⟩ := loadVar_run r.mem hl h1
    refine ⟨v' :: vs', .cons _ _ _ _ h6 h4, ?_⟩
    have h8 : (resRun a.tmps (.cell p ty)).run P w = .ok v' w := by
     simp only [resRun, hz, asAddr, Sem.run_bind, Sem.run_pure, Result.andThen_ok, h7]
    simp only [List.mapM_cons, Sem.run_bind, h8, Result.andThen_ok, h5, Sem.run_pure]
theorem AResult.of {fn : Func} {rs : List ResultVar} (hr : fn.results = ⟨rs⟩) {v : Value} (h : ares P t M rs = some v) : AResult P fn t M v := by
 intro ι N0 a w r
 obtain ⟨vs, h1, h2⟩ := Option.map_eq_some_iff.1 h
 obtain ⟨vs', h3, h4⟩ := aresAll_run r h1
 have hrun : (results fn a.tmps).run P w = .ok (if h : vs'.length = 1 then vs'[0] else .tuple ⟨vs'⟩) w := by
  rw [results_eq, hr, List.mapM_toArray]
  simp [h4]
 rw [hrun]
 have hl := h3.length
 cases h3 with
 | nil => cases h2; exact ⟨_, .tuple _ _ .nil, rfl⟩
 | cons x y xs ys hx hxs =>
  cases hxs with
  | nil => cases h2; exact ⟨y, hx, rfl⟩
  | cons x2 y2 xs ys hx2 hxs => cases h2; exact ⟨_, .tuple _ _ (.cons _ _ _ _ hx (.cons _ _ _ _ hx2 hxs)), by simp⟩
end
def ptrK (v : Value) (K : Nat → Nat → Prop) : Prop := match v with
 | .pointer (some ⟨b, j, none⟩) => K b j
 | _ => False
def fnK (v : Value) (K : Nat → List Value → List Value → Prop) : Prop := match v with
 | .func (.func f) ⟨first⟩ ⟨capt⟩ => K f first capt
 | _ => False
theorem ptrK_elim {v : Value} {K : Nat → Nat → Prop} (h : ptrK v K) : ∃ b j, v = .pointer (some ⟨b, j, none⟩) ∧ K b j := by
 unfold ptrK at h
 split at h
 ·exact ⟨_, _, rfl, h⟩
 ·exact h.elim
theorem fnK_elim {v : Value} {K : Nat → List Value → List Value → Prop} (h : fnK v K) : ∃ f first capt, v = .func (.func f) ⟨first⟩ ⟨capt⟩ ∧ K f first capt := by
 unfold fnK at h
 split at h
 ·exact ⟨_, _, _, rfl, h⟩
 ·exact h.elim
structure LP where
 holds : Mem → Prop
 keep : ∀ M M', holds M → Fr M M' [] → holds M'
theorem cellM_keep {M M' : Mem} {b j : Nat} {v : Value} (h : cellM M b j = some v) (f : Fr M M' []) : cellM M' b j = some v := by
 unfold cellM at h ⊢
 obtain ⟨B, hB, h'⟩ := Option.bind_eq_some_iff.1 h
 rw [f.2 b (List.getElem?_eq_some_iff.1 hB).1 (by simp)]
 exact h
theorem cellsM_keep {M M' : Mem} {b j n : Nat} {v : List Value} (h : cellsM M b j n = some v) (f : Fr M M' []) : cellsM M' b j n = some v := by
 unfold cellsM at h ⊢
 obtain ⟨B, hB, h'⟩ := Option.bind_eq_some_iff.1 h
 rw [f.2 b (List.getElem?_eq_some_iff.1 hB).1 (by simp)]
 exact h
theorem aload_keep {P : Program} {t : TypeId} {M M' : Mem} {b j : Nat} {v : Value} (h : aload P t M b j = some v) (f : Fr M M' []) : aload P t M' b j = some v := by
 unfold aload at h ⊢
 split at h
 ·obtain ⟨n, hn, h⟩ := Option.bind_eq_some_iff.1 h
  obtain ⟨l, hl, h⟩ := Option.map_eq_some_iff.1 h
  rw [hn]; simp only [Option.bind_some]; rw [cellsM_keep hl f]; exact congrArg some h
 ·obtain ⟨n, hn, h⟩ := Option.bind_eq_some_iff.1 h
  obtain ⟨l, hl, h⟩ := Option.map_eq_some_iff.1 h
  rw [hn]; simp only [Option.bind_some]; rw [cellsM_keep hl f]; exact congrArg some h
 ·exact cellM_keep h f
 ·cases h
def LP.load (P : Program) (t : TypeId) (b j : Nat) (v : Value) : LP := ⟨fun M => aload P t M b j = some v, fun _ _ h f => aload_keep h f⟩
def LP.size (v : Value) (s : Nat) : LP := ⟨fun M => szOk M v s ∧ ∀ b ∈ blkOf v, b < M.length, fun M M' h f => ⟨⟨h.1.1, fun a n c B hv hc hB => by
 have hb := h.2 a.block (by subst hv; simp [blkOf, hc])
 rw [f.2 _ hb (by simp)] at hB
 exact h.1.2 a n c B hv hc hB⟩, fun b hb => Nat.lt_of_lt_of_le (h.2 b hb) f.1⟩⟩
section
variable {P : Program} {ops : Array Oper} {rest : List Oper} {K : List Value → Mem → Prop} {t : List Value} {M : Mem} {Q : Exit → List Value → Mem → Prop}
@[congr] theorem AL.cong {t' : List Value} {M' : Mem} (ht : t = t') (hM : M = M') : AL P ops rest K t M = AL P ops rest K t' M' := by rw [ht, hM]
@[congr] theorem AW.cong {c : Code} {t' : List Value} {M' : Mem} (ht : t = t') (hM : M = M') : AW P c Q t M = AW P c Q t' M' := by rw [ht, hM]
@[congr] theorem CallA.cong {f : FuncId} {args args' : List Value} {M' : Mem} {R : Value → Mem → Prop} (ha : args = args') (hM : M = M') : CallA P f args M R = CallA P f args' M' R := by rw [ha, hM]
theorem thenA.normal {next : List Value → Mem → Prop} (h : next t M) : thenA next Q .normal t M := h
variable {dst : Option Tmp} {type : TypeId} {pos : String} {after : Array Edge} {g : Option (Nat × Bool)}
theorem AL.pu {op : Op} (hok : okOpds ⟨dst, op, type, pos, after, none⟩ = true) (h : ∃ v, apure P (ev t) op = some v ∧ AL P ops rest K (putT t dst v) M) : AL P ops (⟨dst, op, type, pos, after, none⟩ :: rest) K t M := by
 obtain ⟨v, hv, hc⟩ := h
 exact AL.op hok rfl (AOp.pure (apure_sound hv) hc)
theorem AL.ld {ty : TypeId} {x : Operand} (hok : okOpd x = true) (h : ptrK (ev t x) fun b j => ∃ v, aload P ty M b j = some v ∧ AL P ops rest K (putT t dst v) M) : AL P ops (⟨dst, .load ty x, type, pos, after, none⟩ :: rest) K t M := by
 obtain ⟨b, j, hx, v, hv, hc⟩ := ptrK_elim h
 exact AL.op (by simpa [okOpds, calmOp, Op.operands] using hok) rfl (AOp.load (load_load rfl hx) hv hc)
theorem AL.bx {ty : TypeId} {x : Operand} (hok : okOpd x = true) (h : AL P ops rest K (putT t dst (.pointer (some ⟨M.length, 0, none⟩))) (M ++ [.box (cl (ev t x))])) : AL P ops (⟨dst, .box ty x, type, pos, after, none⟩ :: rest) K t M :=
 AL.op (by simpa [okOpds, calmOp, Op.operands] using hok) rfl (AOp.fresh (fresh_box rfl) h)
theorem AL.al {ty : TypeId} (h : ∃ z, tzero P ty = some z ∧ AL P ops rest K (putT t dst (.pointer (some ⟨M.length, 0, none⟩))) (M ++ [.box z])) : AL P ops (⟨dst, .alloc ty, type, pos, after, none⟩ :: rest) K t M := by
 obtain ⟨z, hz, hc⟩ := h
 exact AL.op rfl rfl (AOp.fresh (fresh_alloc rfl hz) hc)
theorem AL.lt {ty : TypeId} {len : Nat} {parts : Array (Nat × Operand)} (hok : okOpds ⟨dst, .buildSlice ty len parts, type, pos, after, none⟩ = true) (h : ∃ s cs, alit P ty len (parts.toList.map fun p => (p.1, ev t p.2)) = some (s, cs) ∧ AL P ops rest K (putT t dst (.slice (some ⟨M.length, 0, none⟩) len len)) (M ++ [.row true s cs])) : AL P ops (⟨dst, .buildSlice ty len parts, type, pos, after, none⟩ :: rest) K t M := by
 obtain ⟨s, cs, hv, hc⟩ := h
 exact AL.op hok rfl (AOp.fresh (fresh_lit rfl hv) hc)
theorem AL.st {ty : TypeId} {x y : Operand} (hok : okOpd x = true) (hok' : okOpd y = true) (h : ptrK (ev t x) fun b j => ∃ B, M[b]? = some B ∧ B.ours = true ∧ tsz P ty = some (cl (ev t y)).length ∧ 0 < (cl (ev t y)).length ∧ (cl (ev t y)).all Value.oneCell' = true ∧ j + (cl (ev t y)).length ≤ B.cells.length ∧ AL P ops rest K (putT t dst undef) (M.set b (B.put (spl B.cells j (cl (ev t y)))))) : AL P ops (⟨dst, .store ty x y, type, pos, after, none⟩ :: rest) K t M := by
 obtain ⟨b, j, hx, B, hB, h1, h2, h3, h4, h5, hc⟩ := ptrK_elim h
 exact AL.op (by simp [okOpds, calmOp, Op.operands, hok, hok']) rfl (AOp.store rfl hx h2 rfl rfl h3 h4 hB h1 h5 hc)
theorem AL.sl {ty e : TypeId} {x : Operand} {lo hi mx : Option Operand} (hu : P.underlying ty = some (.slice e)) (hok : okOpds ⟨dst, .slice ty x lo hi mx, type, pos, after, none⟩ = true)
  (h : ∃ s v, tsz P e = some s ∧ szOk M (ev t x) s ∧ aslice (ev t x) s (lo.map (ev t)) (hi.map (ev t)) (mx.map (ev t)) = some v ∧ AL P ops rest K (putT t dst v) M) : AL P ops (⟨dst, .slice ty x lo hi mx, type, pos, after, none⟩ :: rest) K t M := by
 obtain ⟨s, v, hs, hz, hv, hc⟩ := h
 exact AL.op hok rfl (AOp.load (load_slice rfl hu hs hv) hz hc)
def appK (P : Program) (ty ty' : TypeId) (x y : Value) (M : Mem) (C : Value → Mem → Prop) : Prop := ty' = ty ∧ ∃ e s z bt cs ds, P.underlying ty = some (.slice e) ∧ tsz P e = some s ∧ tzero P e = some z ∧ z.length = s ∧ tby P e = some bt ∧ 0 < bt ∧ Own M x s cs ∧ Sl M y s ds ∧ (sln x + sln y) * bt ≤ 140737488355328 ∧
 ∀ v' M', New M M' v' s (cs ++ ds) → sln v' = sln x + sln y → Fr M M' (blkOf x) → C v' M'
theorem appK_sound {ρ : Operand → Value} {o : Oper} {ty ty' : TypeId} {x y : Operand} {C : Value → Mem → Prop} (ho : o.op = .call { callee := .builtin .append, args := ⟨[x, y]⟩, argTypes := ⟨[ty, ty']⟩ }) (h : appK P ty ty' (ρ x) (ρ y) M C) : AOp P o ρ M C := by
 obtain ⟨rfl, e, s, z, bt, cs, ds, hu, h1, h2, h3, h4, h5, h6, h7, h8, hc⟩ := h
 exact AOp.append ho hu h1 h2 h3 h4 h5 h6 h7 h8 hc
theorem AL.ap {ty ty' : TypeId} {x y : Operand} (hok : okOpd x = true) (hok' : okOpd y = true) (h : appK P ty ty' (ev t x) (ev t y) M fun v' M' => AL P ops rest K (putT t dst v') M') : AL P ops (⟨dst, .call { callee := .builtin .append, args := ⟨[x, y]⟩, argTypes := ⟨[ty, ty']⟩ }, type, pos, after, none⟩ :: rest) K t M :=
 AL.op (by simp [okOpds, calmOp, Op.operands, Call.operands, hok, hok']) rfl (appK_sound rfl h)
theorem AL.ca {f : Operand} {args : Array Operand} {tys : Array TypeId} (hok : okOpds ⟨dst, .call { callee := .value f, args := args, argTypes := tys }, type, pos, after, none⟩ = true) (h : fnK (ev t f) fun f first capt => CallA P f (first ++ args.toList.map (ev t) ++ capt) M fun v M' => AL P ops rest K (putT t dst v) M') : AL P ops (⟨dst, .call { callee := .value f, args := args, argTypes := tys }, type, pos, after, none⟩ :: rest) K t M := by
 obtain ⟨f, first, capt, hg, hc⟩ := fnK_elim h
 exact AL.op hok rfl (AOp.call rfl hg hc fun _ _ h => h)
theorem AL.guT {op : Op} {j : Nat} {want b : Bool} (hy : yieldA ops t j = some b) (hb : b = want) (h : AL P ops (⟨dst, op, type, pos, after, none⟩ :: rest) K t M) : AL P ops (⟨dst, op, type, pos, after, some (j, want)⟩ :: rest) K t M := by
 intro ro ι N0 a w Q r hc
 have := h ro ι N0 a w Q r hc
 unfold wpListIn at this ⊢
 rw [wantA_eq r.tmps] at this ⊢
 rw [show wantA ops ⟨dst, op, type, pos, after, none⟩ t = true from rfl, if_pos rfl] at this
 rw [show wantA ops ⟨dst, op, type, pos, after, some (j, want)⟩ t = true by simp [wantA, hy, hb], if_pos rfl]
 exact this
theorem AL.guF {op : Op} {j : Nat} {want b : Bool} (hy : yieldA ops t j = some b) (hb : b = !want) (h : AL P ops rest K (putT t dst undef) M) : AL P ops (⟨dst, op, type, pos, after, some (j, want)⟩ :: rest) K t M :=
 AL.skip (by simp [wantA, hy, hb]) h
theorem AL.gu {op : Op} {j : Nat} {want b : Bool} (hy : yieldA ops t j = some b) (h : b = want → AL P ops (⟨dst, op, type, pos, after, none⟩ :: rest) K t M) (h' : b = (!want) → AL P ops rest K (putT t dst undef) M) : AL P ops (⟨dst, op, type, pos, after, some (j, want)⟩ :: rest) K t M := by
 by_cases hb : b = want
 ·exact AL.guT hy hb (h hb)
 ·have hb' : b = !want := by cases b <;> cases want <;> simp_all
  exact AL.guF hy hb' (h' hb')
theorem AW.condT {c : Operand} {x y : Code} (hx : okOpd c = true) {b : Bool} (hc : ev t c = .bool b) (hb : b = true) (h : AW P x Q t M) : AW P (.cond c x y) Q t M := AW.cond hx b hc (fun _ => h) fun h => by rw [hb] at h; cases h
theorem AW.condF {c : Operand} {x y : Code} (hx : okOpd c = true) {b : Bool} (hc : ev t c = .bool b) (hb : b = false) (h : AW P y Q t M) : AW P (.cond c x y) Q t M := AW.cond hx b hc (fun h => by rw [hb] at h; cases h) fun _ => h
theorem AW.condS {c : Operand} {x y : Code} (hx : okOpd c = true) {b : Bool} (hc : ev t c = .bool b) (h1 : b = true → AW P x Q t M) (h2 : b = false → AW P y Q t M) : AW P (.cond c x y) Q t M := AW.cond hx b hc h1 h2
theorem thenA.exit {next : List Value → Mem → Prop} {id : Nat} (h : Q (.exit id) t M) : thenA next Q (.exit id) t M := h
theorem thenA.goto {next : List Value → Mem → Prop} {id : Nat} (h : Q (.goto id) t M) : thenA next Q (.goto id) t M := h
theorem thenA.ret {next : List Value → Mem → Prop} (h : Q .ret t M) : thenA next Q .ret t M := h
theorem blockA.normal {id : Nat} (h : Q .normal t M) : blockA id Q .normal t M := h
theorem blockA.here {id : Nat} (h : Q .normal t M) : blockA id Q (.exit id) t M := by simpa [blockA] using h
theorem blockA.exit {id id' : Nat} (hn : (id' == id) = false) (h : Q (.exit id') t M) : blockA id Q (.exit id') t M := by simp at hn; simpa [blockA, hn] using h
theorem blockA.goto {id id' : Nat} (h : Q (.goto id') t M) : blockA id Q (.goto id') t M := h
theorem blockA.ret {id : Nat} (h : Q .ret t M) : blockA id Q .ret t M := h
theorem scopeA.ret {body : Code} {J : Nat → Nat → List Value → Mem → Prop} {n : Option Nat} (h : Q .ret t M) : scopeA body J n Q .ret t M := h
theorem scopeA.normal {body : Code} {J : Nat → Nat → List Value → Mem → Prop} {n : Option Nat} (h : Q .normal t M) : scopeA body J n Q .normal t M := h
def over (t : List Value) (js : List Nat) (f : Nat → Value) : List Value := match js with
 | [] => t
 | j :: js => over (t.set j (f j)) js f
theorem over_self : ∀ (js : List Nat) (t : List Value), over t js (fun j => t.getD j undef) = t
 | [], t => rfl
 | j :: js, t => by
  have h : t.set j (t.getD j undef) = t := by
   apply List.ext_getElem?
   intro k
   by_cases e : j = k
   ·subst e
    by_cases hj : j < t.length
    ·rw [List.getElem?_set_self hj, List.getD_eq_getElem?_getD, List.getElem?_eq_getElem hj]; rfl
    ·simp [hj]
   ·rw [List.getElem?_set_ne e]
  unfold over
  rw [h]
  exact over_self js t
theorem AW.loopF {c : Code} (js : List Nat) (J : Nat → (Nat → Value) → Mem → Prop) (n : Nat) (h0 : J n (fun j => t.getD j undef) M)
  (round : ∀ n f M', J n f M' → AW P c (thenA (fun t' M'' => t' = over t js (fun j => t'.getD j undef) ∧ ∃ m, m < n ∧ J m (fun j => t'.getD j undef) M'') Q) (over t js f) M') : AW P (.loop c) Q t M := by
 refine AW.loop (fun n t' M' => ∃ f, t' = over t js f ∧ J n f M') n ⟨_, (over_self js t).symm, h0⟩ ?_
 rintro n t' M' ⟨f, rfl, hJ⟩
 refine (round n f M' hJ).mono ?_
 intro e t2 M2 h
 cases e with
 | normal =>
  obtain ⟨h1, m, hm, h2⟩ := h
  exact ⟨m, hm, _, h1, h2⟩
 | _ => exact h
theorem retA.ret {fn : Func} {R : Value → Mem → Prop} {rs : List ResultVar} (hr : fn.results = ⟨rs⟩) (h : ∃ v, ares P t M rs = some v ∧ R v M) : retA P fn R .ret t M := by
 obtain ⟨v, hv, h⟩ := h
 exact ⟨v, AResult.of hr hv, h⟩
theorem retA.normal {fn : Func} {R : Value → Mem → Prop} {rs : List ResultVar} (hr : fn.results = ⟨rs⟩) (h : ∃ v, ares P t M rs = some v ∧ R v M) : retA P fn R .normal t M := retA.ret hr h
end
end Go.Proofs.Ytbdejnnbpdgjlaa.Ax
