/- Written for this claim by a program of this session, after the kit's print. Not trusted: Lean checks it. -/
import Derived.Test.YtpcjinapcmkbcaaPNlriPutsx0
import Derived.Test.YtpcjinapcmkbcaaPNlriPutsx2
import Derived.Test.YtpcjinapcmkbcaaPNlriPutsx3
namespace Go.Proofs.Ytpcjinapcmkbcaa.PNlriPuts
open Go.RowKit Go.Proofs.YtpcjinapcmkbcaaW.PrintWords Go.Proofs.YtpcjinapcmkbcaaW.PrintLast Go.Proofs.YtpcjinapcmkbcaaW.PrintMore
attribute [local go_sem] max2_int min2_int max_two min_two max_three min_three max_four min_four   -- for this text's walks alone
set_option linter.unusedVariables false
set_option linter.unusedSimpArgs false

-- GIVEN rounds=1 making=1 info=P,B
-- TYPES P=api.Prefix;B=uint8;BS=[]uint8;PS=[]api.Prefix;A4=[4]uint8;
-- FUNCS put=dragoman/dragomanref23.Put
section
open Go.Proofs.Ytpcjinapcmkbcaa.Sp
/-- The four bytes of an address, by division. -/
def quo4 (a : Int) : List Int := [a.tdiv 16777216 % 256, a.tdiv 65536 % 256, a.tdiv 256 % 256, a.tmod 256 % 256]
def dragomanref23_Put.l0 (k : Nat) : List S34 → List Int → Option (List Int × Int)
  | [], out => some (out, 0)
  | p :: r, out => (dragomanref03_Right.f k p.f0 p.f1).bind fun ok => if ok = true then (dragomanref23_Size.f k p.f0 p.f1).bind fun n => if 1 ≤ n ∧ n ≤ 5 ∧ out.length + 5 < 1000000 then dragomanref23_Put.l0 k r (out ++ [IntKind.u8.wrap p.f1] ++ (quo4 p.f0).take (n - 1).toNat) else none else some ([], 4)
def dragomanref23_Put.f (k : Nat) (l0 : List S34) : Option (List Int × Int) := dragomanref23_Put.l0 k l0 []
theorem dragomanref23_Put.mono : ∀ a0 k, LeO (dragomanref23_Put.f k a0) (dragomanref23_Put.f (k + 1) a0) := by
  intro a0 k
  unfold dragomanref23_Put.f
  generalize ([] : List Int) = out
  induction a0 generalizing out with
  | nil => exact LeO.refl _
  | cons p r ih =>
    unfold dragomanref23_Put.l0
    refine LeO.bind (dragomanref03_Right.mono _ _ _) (fun _ => ?_)
    refine LeO.ite ?_ (LeO.refl _)
    refine LeO.bind (dragomanref23_Size.mono _ _ _) (fun _ => ?_)
    exact LeO.ite (ih _) (LeO.refl _)

set_option maxHeartbeats 8000000 in
set_option maxRecDepth 100000 in
theorem dragomanref23_Put.calls (k : Nat) (A0 : Option Addr) (c0 : Nat) (l0 : List (S34)) (r1 : List Int) (r2 : Int) (w : World) (hr0 : Kd.C k34 w A0 l0.length l0) (hc0 : l0.length ≤ c0) (h : dragomanref23_Put.f k l0 = some (r1, r2)) :
    Calls Try.prog 9 #[.slice A0 l0.length c0] w fun e w' => ∃ v0_ : Value, e = .returned (.tuple #[v0_, .int .i64 r2]) ∧ Kd.R (Kd.int .u8) 5 w' w.heap.size (fun _ => True) v0_ r1 ∧ Below w.heap.size w w' := by
  have hu34 := Try.underlying34
  have hu45 := Try.underlying45
  have HR0 := Aside0.mk hr0
  have HC0 := Aside0.mk hc0
  have H' := Aside0.mk h
  have hlen : (l0.length : Int) ≤ 9223372036854775807 := by have := hr0.2.1; omega
  clear hr0 hc0 h
  go_enter Try.func9, Try.ntmps9
  go_wp2
  go_loopg [4, 11] l0.length (fun kq v4 v11 w' => ∃ (x4 : List Int) (i : Nat), v11 = .int .i64 i ∧ Aside0 (dragomanref23_Put.l0 k (l0.drop i) x4 = some (r1, r2)) ∧ Aside0 (i + kq = l0.length) ∧ Sep w w' [.row 5 1 v4 x4.length (x4.map (Value.int .u8))])
  case atStart => exact ⟨[], 0, rfl, H', ⟨by omega⟩, (Sep.nil w).row_nil 5 1⟩
  case round =>
    clear H'
    obtain ⟨x4, i, rfl, HA, HK1, HS⟩ := hrel
    by_cases c2 : i < l0.length
    · obtain ⟨ad, e1, hx0, hx1⟩ := at_T34 HR0.out (i : Int) (by omega) (by omega)
      cases e1
      have hx0' := (HS.below.cell (World.block_lt_of_cell? w _ hx0)).trans hx0
      have hx1' := (HS.below.cell (World.block_lt_of_cell? w _ hx1)).trans hx1
      clear hx0 hx1
      have hp : rd_T34 l0 (i : Int) = l0[i] := by unfold rd_T34; simp [c2]
      rw [hp] at hx0' hx1'
      have hA := HA.out
      rw [List.drop_eq_getElem_cons c2] at hA
      generalize l0[i] = p at hx0' hx1' hA
      unfold dragomanref23_Put.l0 at hA
      replace hA := Option.bind_eq_some_iff.mp hA
      obtain ⟨ok, hR, hA⟩ := hA
      have HRi := Aside0.mk hR
      have HA2 := Aside0.mk hA
      clear hA hR hp HA
      simp only [Int.toNat_natCast] at hx0' hx1'
      go_wp2_with (fail)
      refine (dragomanref03_Right.calls k _ _ ok _ HRi.out).mono ?_
      rintro e w1 ⟨rfl, hb⟩
      have HS1 := (HS.alloc [.int .u32 p.f0, .int .i64 p.f1] 34).keep hb
      have hp0 := HS1.cell (L := []) 0 _ rfl
      have hp1 := HS1.cell (L := []) 1 _ rfl
      have hz1 : wr.heap.size < w1.heap.size := (HS1.var_heap (L := [])).2.1
      clear HS hb
      cases ok with
      | false =>
        obtain ⟨rfl, rfl⟩ : [] = r1 ∧ 4 = r2 := by simpa using HA2.out
        clear HA2
        go_wp2
        go_ret2
        exact ⟨_, rfl, Kd.R_nil _ _ _ _ _, HS1.below⟩
      | true =>
        have hA := HA2.out
        rw [if_pos rfl] at hA
        obtain ⟨n, hN, hA⟩ := Option.bind_eq_some_iff.mp hA
        by_cases hn : 1 ≤ n ∧ n ≤ 5 ∧ x4.length + 5 < 1000000
        · rw [if_pos hn] at hA
          have HN := Aside0.mk hN
          have HA' := Aside0.mk hA
          obtain ⟨hn1, hn5, hnl⟩ := hn
          clear hA HA2 hN
          go_wp2_with (at_builtin; refine append_list (L := [_, _, _]) (F := []) ((HS1.alloc [.int .u8 (p.f0.tdiv 16777216 % 256), .int .u8 (p.f0.tdiv 65536 % 256), .int .u8 (p.f0.tdiv 256 % 256), .int .u8 (p.f0.tmod 256 % 256)] 45).alloc [.int .u8 (p.f1 % 256)] 5) (.tmp 37) (.tmp 41) 24 rfl rfl (.int .u8 0) 1 Try.underlying24 info5 rfl (by decide) (by decide) rfl _ 1 1 [.int .u8 (p.f1 % 256)] rfl ?aV rfl ?a1 ?a2 ?_; (case aV => exact (HS1.alloc [.int .u8 (p.f0.tdiv 16777216 % 256), .int .u8 (p.f0.tdiv 65536 % 256), .int .u8 (p.f0.tdiv 256 % 256), .int .u8 (p.f0.tmod 256 % 256)] 45).view_new [.int .u8 (p.f1 % 256)] 5 (by simp)); (case a1 => simp [Value.oneCell']); (case a2 => omega); intro v5 w5 HS5)
          have HS5 := HS5.tail
          clear HS1 hp0 hp1 hz1 hx0' hx1'
          generalize w1.heap.size = g7 at HS5 ⊢
          generalize wr.heap.size = g6 at HS5 ⊢
          go_loopg [4, 8] (n - 1).toNat (fun kq v4 v8 w' => ∃ (j : Nat), v8 = .int .i64 j ∧ Aside0 (j + kq = (n - 1).toNat) ∧ Sep w w' [.var g7 45 [.int .u8 (p.f0.tdiv 16777216 % 256), .int .u8 (p.f0.tdiv 65536 % 256), .int .u8 (p.f0.tdiv 256 % 256), .int .u8 (p.f0.tmod 256 % 256)], .var g6 34 [.int .u32 p.f0, .int .i64 p.f1], .row 5 1 v4 (x4.length + 1 + j) ((x4 ++ [p.f1 % 256] ++ (quo4 p.f0).take j).map (Value.int .u8))])
          case atStart => exact ⟨0, rfl, ⟨by omega⟩, by simpa using HS5⟩
          case round =>
            clear HS5
            obtain ⟨j, rfl, HJ, HSr⟩ := hrel
            have hq0 := HSr.cell (L := [_]) 0 _ rfl
            have hq1 := HSr.cell (L := [_]) 1 _ rfl
            go_wp2_with (fail)
            refine (dragomanref23_Size.calls k _ _ n _ HN.out).mono ?_
            rintro e w7 ⟨rfl, hb⟩
            have HS7 := HSr.keep hb
            clear HSr hb hq0 hq1
            have hwr : wrap64 (n - 1) = n - 1 := by unfold wrap64; omega
            by_cases hj : j < (n - 1).toNat
            · have hjn : (j : Int) < n - 1 := by omega
              have hj4 : j < 4 := by omega
              obtain ⟨y, hy⟩ : ∃ y, (quo4 p.f0)[j]? = some y := ⟨_, List.getElem?_eq_getElem (by simp [quo4]; omega)⟩
              have hyt : (quo4 p.f0).take (j + 1) = (quo4 p.f0).take j ++ [y] := by rw [List.take_add_one, hy]; rfl
              have hc7 := HS7.cell (L := []) j (.int .u8 y) (by
                have : ((quo4 p.f0).map (Value.int .u8))[j]? = some (.int .u8 y) := by rw [List.getElem?_map, hy]; rfl
                simpa [quo4] using this)
              go_wp2_with (at_builtin; refine append_list (L := [_, _, _]) (F := []) (HS7.alloc [.int .u8 y] 5) (.tmp 50) (.tmp 54) 24 rfl rfl (.int .u8 0) 1 Try.underlying24 info5 rfl (by decide) (by decide) rfl _ 1 1 [.int .u8 y] rfl ?aV rfl ?a1 ?a2 ?_; (case aV => exact HS7.view_new [.int .u8 y] 5 rfl); (case a1 => simp [Value.oneCell']); (case a2 => omega); intro v9 w9 HS9)
              have HS9 := HS9.tail
              go_roundg ((n - 1).toNat - (j + 1))
              case measure => have := HJ.out; omega
              case rel => exact ⟨j + 1, by go_num, ⟨by have := HJ.out; omega⟩, by rw [hyt]; simpa [Nat.add_assoc] using HS9⟩
            · obtain rfl : j = (n - 1).toNat := by have := HJ.out; omega
              have hjn : ¬ (((n - 1).toNat : Int) < n - 1) := by omega
              go_wp2
              go_roundg (l0.length - (i + 1))
              case measure => have := HK1.out; omega
              case rel =>
                refine ⟨_, i + 1, by go_num, HA', ⟨by have := HK1.out; omega⟩, ?_⟩
                have h := HS7.tail.tail
                have e1 : (x4 ++ [IntKind.u8.wrap p.f1] ++ (quo4 p.f0).take (n - 1).toNat).length = x4.length + 1 + (n - 1).toNat := by simp [quo4]; omega
                rw [e1, IntKind.wrap_u8]
                exact h
        · rw [if_neg hn] at hA
          exact absurd hA (by simp)
    · obtain rfl : i = l0.length := by have := HK1.out; omega
      obtain ⟨rfl, rfl⟩ : x4 = r1 ∧ 0 = r2 := by simpa [dragomanref23_Put.l0] using HA.out
      clear HA
      go_wp2
      go_ret2
      exact ⟨_, rfl, Kd.R_of_own (HS.row (L := [])) (fun _ _ => trivial), HS.below⟩
end


/-! ### dragomanlaw23_NlriPuts: function 3 -/
mutual
def dragomanlaw23_NlriPuts.j0 : Nat → List (S34) → Bool → Option (Bool)
  | 0, _, _ => none
  | k + 1, x0, x42 => if x42 = true then (some false) else (dragomanlaw23_NlriPuts.l0 k x0 (x0.length : Int) 0)
def dragomanlaw23_NlriPuts.l0 : Nat → List (S34) → Int → Int → Option (Bool)
  | 0, _, _, _ => none
  | k + 1, x43, x44, x45 => if x45 < x44 then (if 0 ≤ x45 then (if x45 < (x43.length : Int) then ((nlri_Size.f ((rd_T34 x43 x45).f0) ((rd_T34 x43 x45).f1)).bind fun t173 => ((dragomanref23_Size.f k ((rd_T34 x43 x45).f0) ((rd_T34 x43 x45).f1)).bind fun t174 => (if t173 = t174 then (dragomanlaw23_NlriPuts.l0 k x43 x44 (wrap64 (x45 + 1))) else (some false)))) else (none)) else (none)) else (some true)
end
def dragomanlaw23_NlriPuts.f (k : Nat) (l0 : List (S34)) : Option (Bool) := (dragomanlaw23_alive.f k).bind fun t154 => (if t154 = true then (if (l0.length : Int) > 2000 then (some true) else ((some (([] : List (S34)) : List (S34))).bind fun y155 => (if y155.length + l0.length < 8796093022208 then ((some (y155 ++ l0 : List (S34))).bind fun y158 => ((nlri_Put.f y158).bind fun bt161 => ((dragomanref23_Put.f k l0).bind fun bt165 => (if bt161.2 = bt165.2 then ((dragomanref23_Bytes.f k bt161.1 bt165.1).bind fun t169 => (if t169 = true then ((dragomanref23_Same.f k y158 l0).bind fun t170 => (dragomanlaw23_NlriPuts.j0 k l0 (!t170))) else (dragomanlaw23_NlriPuts.j0 k l0 true))) else (dragomanlaw23_NlriPuts.j0 k l0 true))))) else (none)))) else (some false))
theorem dragomanlaw23_NlriPuts.mono_l : ∀ k, (∀ y0 y1, LeO (dragomanlaw23_NlriPuts.j0 k y0 y1) (dragomanlaw23_NlriPuts.j0 (k + 1) y0 y1)) ∧ (∀ y0 y1 y2, LeO (dragomanlaw23_NlriPuts.l0 k y0 y1 y2) (dragomanlaw23_NlriPuts.l0 (k + 1) y0 y1 y2))
  | 0 => ⟨fun _ _ r h => by simp [dragomanlaw23_NlriPuts.j0] at h, fun _ _ _ r h => by simp [dragomanlaw23_NlriPuts.l0] at h⟩
  | k + 1 => by
    obtain ⟨ih0, ih1⟩ := dragomanlaw23_NlriPuts.mono_l k
    refine ⟨?_, ?_⟩
    · intro y0 y1
      unfold dragomanlaw23_NlriPuts.j0
      repeat' first
      | (with_reducible exact ih0 _ _)
      | (with_reducible exact ih1 _ _ _)
      | (with_reducible exact dragomanlaw23_alive.mono _)
      | (with_reducible exact dragomanref23_Bytes.mono _ _ _)
      | (with_reducible exact dragomanref23_Put.mono _ _)
      | (with_reducible exact dragomanref23_Same.mono _ _ _)
      | (with_reducible exact dragomanref23_Size.mono _ _ _)
      | (with_reducible exact LeO.refl _)
      | (with_reducible exact LeO.none _)
      | (with_reducible refine LeO.ite ?_ ?_)
      | (with_reducible refine LeO.bind ?_ (fun _ => ?_))
      | exact ih0 _ _
      | exact ih1 _ _ _
      | exact dragomanlaw23_alive.mono _
      | exact dragomanref23_Bytes.mono _ _ _
      | exact dragomanref23_Put.mono _ _
      | exact dragomanref23_Same.mono _ _ _
      | exact dragomanref23_Size.mono _ _ _
      | exact LeO.none _
      | refine LeO.ite ?_ ?_
      | refine LeO.bind ?_ (fun _ => ?_)
    · intro y0 y1 y2
      unfold dragomanlaw23_NlriPuts.l0
      repeat' first
      | (with_reducible exact ih0 _ _)
      | (with_reducible exact ih1 _ _ _)
      | (with_reducible exact dragomanlaw23_alive.mono _)
      | (with_reducible exact dragomanref23_Bytes.mono _ _ _)
      | (with_reducible exact dragomanref23_Put.mono _ _)
      | (with_reducible exact dragomanref23_Same.mono _ _ _)
      | (with_reducible exact dragomanref23_Size.mono _ _ _)
      | (with_reducible exact LeO.refl _)
      | (with_reducible exact LeO.none _)
      | (with_reducible refine LeO.ite ?_ ?_)
      | (with_reducible refine LeO.bind ?_ (fun _ => ?_))
      | exact ih0 _ _
      | exact ih1 _ _ _
      | exact dragomanlaw23_alive.mono _
      | exact dragomanref23_Bytes.mono _ _ _
      | exact dragomanref23_Put.mono _ _
      | exact dragomanref23_Same.mono _ _ _
      | exact dragomanref23_Size.mono _ _ _
      | exact LeO.none _
      | refine LeO.ite ?_ ?_
      | refine LeO.bind ?_ (fun _ => ?_)
theorem dragomanlaw23_NlriPuts.mono : ∀ a0 k, LeO (dragomanlaw23_NlriPuts.f k a0) (dragomanlaw23_NlriPuts.f (k + 1) a0) := by
  intro a0 k
  obtain ⟨ih0, ih1⟩ := dragomanlaw23_NlriPuts.mono_l k
  unfold dragomanlaw23_NlriPuts.f
  repeat' first
      | (with_reducible exact ih0 _ _)
      | (with_reducible exact ih1 _ _ _)
      | (with_reducible exact dragomanlaw23_alive.mono _)
      | (with_reducible exact dragomanref23_Bytes.mono _ _ _)
      | (with_reducible exact dragomanref23_Put.mono _ _)
      | (with_reducible exact dragomanref23_Same.mono _ _ _)
      | (with_reducible exact dragomanref23_Size.mono _ _ _)
      | (with_reducible exact LeO.refl _)
      | (with_reducible exact LeO.none _)
      | (with_reducible refine LeO.ite ?_ ?_)
      | (with_reducible refine LeO.bind ?_ (fun _ => ?_))
      | exact ih0 _ _
      | exact ih1 _ _ _
      | exact dragomanlaw23_alive.mono _
      | exact dragomanref23_Bytes.mono _ _ _
      | exact dragomanref23_Put.mono _ _
      | exact dragomanref23_Same.mono _ _ _
      | exact dragomanref23_Size.mono _ _ _
      | exact LeO.none _
      | refine LeO.ite ?_ ?_
      | refine LeO.bind ?_ (fun _ => ?_)
set_option maxHeartbeats 8000000 in
set_option maxRecDepth 100000 in
theorem dragomanlaw23_NlriPuts.calls (k : Nat) (A0 : Option Addr) (c0 : Nat) (l0 : List (S34)) (r : Bool) (w : World) (hr0 : Kd.C k34 w A0 l0.length l0) (hc0 : l0.length ≤ c0) (h : dragomanlaw23_NlriPuts.f k l0 = some r) :
    Calls Try.prog 3 #[.slice A0 l0.length c0] w fun e w' => e = .returned (.bool r) ∧ Below w.heap.size w w' := by
  have hu34 := Try.underlying34
  have HR0 := Aside0.mk hr0
  have HC0 := Aside0.mk hc0
  clear hr0 hc0
  have HB := Aside0.mk (Below.refl w.heap.size w)
  have H : ((dragomanlaw23_alive.f k).bind fun t154 => (if t154 = true then (if (l0.length : Int) > 2000 then (some true) else ((some (([] : List (S34)) : List (S34))).bind fun y155 => (if y155.length + l0.length < 8796093022208 then ((some (y155 ++ l0 : List (S34))).bind fun y158 => ((nlri_Put.f y158).bind fun bt161 => ((dragomanref23_Put.f k l0).bind fun bt165 => (if bt161.2 = bt165.2 then ((dragomanref23_Bytes.f k bt161.1 bt165.1).bind fun t169 => (if t169 = true then ((dragomanref23_Same.f k y158 l0).bind fun t170 => (dragomanlaw23_NlriPuts.j0 k l0 (!t170))) else (dragomanlaw23_NlriPuts.j0 k l0 true))) else (dragomanlaw23_NlriPuts.j0 k l0 true))))) else (none)))) else (some false))) = some r := h
  clear h
  replace H := Option.bind_eq_some_iff.mp H
  obtain ⟨t154, A20, H⟩ := H
  replace H : (if t154 = true then (if (l0.length : Int) > 2000 then (some true) else ((some (([] : List (S34)) : List (S34))).bind fun y155 => (if y155.length + l0.length < 8796093022208 then ((some (y155 ++ l0 : List (S34))).bind fun y158 => ((nlri_Put.f y158).bind fun bt161 => ((dragomanref23_Put.f k l0).bind fun bt165 => (if bt161.2 = bt165.2 then ((dragomanref23_Bytes.f k bt161.1 bt165.1).bind fun t169 => (if t169 = true then ((dragomanref23_Same.f k y158 l0).bind fun t170 => (dragomanlaw23_NlriPuts.j0 k l0 (!t170))) else (dragomanlaw23_NlriPuts.j0 k l0 true))) else (dragomanlaw23_NlriPuts.j0 k l0 true))))) else (none)))) else (some false)) = some r := H
  have A2 := Aside0.mk A20
  clear A20
  by_cases c3 : t154 = true
  · subst c3
    have H1 : (if (l0.length : Int) > 2000 then (some true) else ((some (([] : List (S34)) : List (S34))).bind fun y155 => (if y155.length + l0.length < 8796093022208 then ((some (y155 ++ l0 : List (S34))).bind fun y158 => ((nlri_Put.f y158).bind fun bt161 => ((dragomanref23_Put.f k l0).bind fun bt165 => (if bt161.2 = bt165.2 then ((dragomanref23_Bytes.f k bt161.1 bt165.1).bind fun t169 => (if t169 = true then ((dragomanref23_Same.f k y158 l0).bind fun t170 => (dragomanlaw23_NlriPuts.j0 k l0 (!t170))) else (dragomanlaw23_NlriPuts.j0 k l0 true))) else (dragomanlaw23_NlriPuts.j0 k l0 true))))) else (none)))) = some r := by rw [if_pos rfl] at H; exact H
    clear H
    have H := H1
    clear H1
    by_cases c4 : (l0.length : Int) > 2000
    · rw [if_pos c4] at H
      have c4b0 : decide (2000 < (l0.length : Int)) = true := decide_eq_true c4
      have c4b1 : decide (2000 < l0.length) = true := decide_eq_true (by omega)
      clear c4
      obtain rfl := Option.some.inj H
      go_enter Try.func3, Try.ntmps3
      go_wp2_with (first | ((with_reducible refine gate_callee (f := 7) rfl ?_); refine goesL_ (some 10) rfl rfl Try.func7 (by kernel_rfl) rfl #[] rfl (by (try simp only [List.map_toArray, List.map_cons, List.map_nil]); first | done | rfl | (simp only [List.length_drop, List.length_take]; rfl)) ?_; (with_reducible refine (dragomanlaw23_alive.calls k  true _ A2.out).mono ?_); rintro e w5 ⟨rfl, hb⟩; refine ⟨_, rfl, ?_⟩; have n0_ := Aside0.mk (below_step (by repeat (first | (with_reducible first | exact HB.out | apply below_alloc | apply pw_below_drewN | apply below_drew1) | exact HB.out)) hb); clear HB; have HB := n0_; clear n0_; (try clear hb); (try clear hb2); (try clear hk); (try clear hi)))
      go_ret
      exact ⟨by first | rfl | (simp [errW_none, errW_some] <;> rfl) | (simp [*, errW_none, errW_some] <;> rfl), by repeat (first | (with_reducible first | exact HB.out | apply below_alloc | apply pw_below_drewN | apply below_drew1) | exact HB.out)⟩
    · rw [if_neg c4] at H
      have c4b0 : decide (2000 < (l0.length : Int)) = false := decide_eq_false c4
      have c4b1 : decide (2000 < l0.length) = false := decide_eq_false (by omega)
      clear c4
      obtain ⟨y155, hy155⟩ : ∃ y_ : List (S34), y_ = (([] : List (S34))) := ⟨_, rfl⟩
      replace H : (if y155.length + l0.length < 8796093022208 then ((some (y155 ++ l0 : List (S34))).bind fun y158 => ((nlri_Put.f y158).bind fun bt161 => ((dragomanref23_Put.f k l0).bind fun bt165 => (if bt161.2 = bt165.2 then ((dragomanref23_Bytes.f k bt161.1 bt165.1).bind fun t169 => (if t169 = true then ((dragomanref23_Same.f k y158 l0).bind fun t170 => (dragomanlaw23_NlriPuts.j0 k l0 (!t170))) else (dragomanlaw23_NlriPuts.j0 k l0 true))) else (dragomanlaw23_NlriPuts.j0 k l0 true))))) else (none)) = some r := by first | (rw [hy155]; with_reducible exact H) | (have H2_ := (Option.bind_some _ _).symm.trans H; rw [hy155]; with_reducible exact H2_) | (have H2_ := (Option.bind_some _ _).symm.trans H; with_reducible exact H2_) | with_reducible exact H | (rw [hy155]; exact H) | exact H
      have Ny155 := Aside0.mk hy155
      clear hy155
      by_cases c6 : y155.length + l0.length < 8796093022208
      · rw [if_pos c6] at H
        have LMc6 := Aside0.mk c6
        clear c6
        obtain ⟨y158, hy158⟩ : ∃ y_ : List (S34), y_ = (y155 ++ l0) := ⟨_, rfl⟩
        replace H : ((nlri_Put.f y158).bind fun bt161 => ((dragomanref23_Put.f k l0).bind fun bt165 => (if bt161.2 = bt165.2 then ((dragomanref23_Bytes.f k bt161.1 bt165.1).bind fun t169 => (if t169 = true then ((dragomanref23_Same.f k y158 l0).bind fun t170 => (dragomanlaw23_NlriPuts.j0 k l0 (!t170))) else (dragomanlaw23_NlriPuts.j0 k l0 true))) else (dragomanlaw23_NlriPuts.j0 k l0 true)))) = some r := by first | (rw [hy158]; with_reducible exact H) | (have H2_ := (Option.bind_some _ _).symm.trans H; rw [hy158]; with_reducible exact H2_) | (have H2_ := (Option.bind_some _ _).symm.trans H; with_reducible exact H2_) | with_reducible exact H | (rw [hy158]; exact H) | exact H
        have Ny158 := Aside0.mk hy158
        clear hy158
        replace H := Option.bind_eq_some_iff.mp H
        obtain ⟨⟨t161, t162⟩, A70, H⟩ := H
        replace H : ((dragomanref23_Put.f k l0).bind fun bt165 => (if t162 = bt165.2 then ((dragomanref23_Bytes.f k t161 bt165.1).bind fun t169 => (if t169 = true then ((dragomanref23_Same.f k y158 l0).bind fun t170 => (dragomanlaw23_NlriPuts.j0 k l0 (!t170))) else (dragomanlaw23_NlriPuts.j0 k l0 true))) else (dragomanlaw23_NlriPuts.j0 k l0 true))) = some r := H
        have A7 := Aside0.mk A70
        clear A70
        replace H := Option.bind_eq_some_iff.mp H
        obtain ⟨⟨t165, t166⟩, A80, H⟩ := H
        replace H : (if t162 = t166 then ((dragomanref23_Bytes.f k t161 t165).bind fun t169 => (if t169 = true then ((dragomanref23_Same.f k y158 l0).bind fun t170 => (dragomanlaw23_NlriPuts.j0 k l0 (!t170))) else (dragomanlaw23_NlriPuts.j0 k l0 true))) else (dragomanlaw23_NlriPuts.j0 k l0 true)) = some r := H
        have A8 := Aside0.mk A80
        clear A80
        have HC9 := Aside0.mk H
        clear H
        go_enter Try.func3, Try.ntmps3
        go_upto_region 8 with (first | ((with_reducible refine gate_callee (f := 7) rfl ?_); refine goesL_ (some 10) rfl rfl Try.func7 (by kernel_rfl) rfl #[] rfl (by (try simp only [List.map_toArray, List.map_cons, List.map_nil]); first | done | rfl | (simp only [List.length_drop, List.length_take]; rfl)) ?_; (with_reducible refine (dragomanlaw23_alive.calls k  true _ A2.out).mono ?_); rintro e w10 ⟨rfl, hb⟩; refine ⟨_, rfl, ?_⟩; have n0_ := Aside0.mk (below_step (by repeat (first | (with_reducible first | exact HB.out | apply below_alloc | apply pw_below_drewN | apply below_drew1) | exact HB.out)) hb); clear HB; have HB := n0_; clear n0_; (try clear hb); (try clear hb2); (try clear hk); (try clear hi)) | ((with_reducible refine gate_dst (N := 15) rfl ?_); refine Kd.R_lit k34 _ 34 ?hg (N := 15) ?hd (xs := ([] : List (S34))) (inner := []) (ok := fun _ => True) (okp := fun _ => True) ?hr ?hp (fun _ hk => hk) trivial (Below.refl _ _) (Nat.le_refl _) (by simp) ?_; (case hd => rfl); (case hg => rfl); (case hr => first | (go_simp; done) | (go_simp; rfl)); (case hp => exact (Reps.none _ _)); intro v156 w11 ho12 hb hg_ hnew_; clear hg_ hnew_; (first | rw [← Ny155.out] at ho12 | (simp only [Int.reduceToNat] at ho12; rw [← Ny155.out] at ho12)); have n0_ := Aside0.mk (Kd.R_lower ho12 (below_size (by repeat (first | (with_reducible first | exact HB.out | apply below_alloc | apply pw_below_drewN | apply below_drew1) | exact HB.out)))); have n1_ := Aside0.mk (below_step (by repeat (first | (with_reducible first | exact HB.out | apply below_alloc | apply pw_below_drewN | apply below_drew1) | exact HB.out)) hb); clear HB; have HO157 := n0_; have HB := n1_; clear n0_ n1_; clear hb ho12) | ((with_reducible refine gate_builtin (b := .append) (xs := #[.tmp 15, .tmp 16]) rfl ?_); at_builtin; refine Kd.R_append_rows k34 (w0 := w) w.heap.size rfl (.tmp 15) (.tmp 16) 22 34 (.agg #[(.int .u32 0), (.int .i64 0)]) 16 rfl Try.underlying22 info34 rfl (by decide) (by omega) v156 y155 l0 _ _ _ (fun _ => True) (fun _ => False) rfl rfl ?aO ?aR (fun _ _ h => h) (fun _ h => h.elim) ?aF ?aB ?aS ?aL ?_; (case aR => repeat (first | exact (Kd.C_below HR0.out HB.out) | (with_reducible refine Kd.C_alloc ?_ _) | (with_reducible refine Kd.C_drewN ?_ _) | (with_reducible refine Kd.C_drew ?_))); (case aB => exact (by repeat (first | (with_reducible first | exact HB.out | apply below_alloc | apply pw_below_drewN | apply below_drew1) | exact HB.out))); (case aF => exact (fun _ _ => trivial)); (case aO => exact (by (with_reducible repeat (first | apply Kd.R_alloc | apply Kd.R_drewN | apply Kd.R_drew)); exact HO157.out)); (case aS => exact (below_size (by repeat (first | (with_reducible first | exact HB.out | apply below_alloc | apply pw_below_drewN | apply below_drew1) | exact HB.out)))); (case aL => have := LMc6.out; omega); intro v159 w13 ho hb hg hat; rw [← Ny158.out] at ho; have n0_ := Aside0.mk (hb); have n1_ := Aside0.mk (ho); clear HB; clear HO157; have HB := n0_; have HO160 := n1_; clear n0_ n1_; clear ho hb hg hat; obtain ⟨Ao14, co14, eo14⟩ := Kd.R_slice HO160.out; subst eo14) | ((with_reducible refine gate_callee (f := 8) rfl ?_); refine goesL_ (some 20) rfl rfl Try.func8 (by kernel_rfl) rfl #[.slice Ao14 y158.length co14] rfl (by (try simp only [List.map_toArray, List.map_cons, List.map_nil]); first | done | rfl | (simp only [List.length_drop, List.length_take]; rfl)) ?_; (with_reducible refine (nlri_Put.calls _ _ y158 t161 t162 _ ?side1 ?side2 A7.out).mono ?_); (case side1 => repeat (first | exact (Kd.R_reads' HO160.out).2.2 | (with_reducible refine Kd.C_alloc ?_ _) | (with_reducible refine Kd.C_drewN ?_ _) | (with_reducible refine Kd.C_drew ?_))); (case side2 => exact (Kd.R_reads' HO160.out).2.1); rintro e w15 ⟨v163, rfl, ho0, hb⟩; refine ⟨_, rfl, ?_⟩; have n0_ := Aside0.mk (Kd.R_below (by (with_reducible repeat (first | apply Kd.R_alloc | apply Kd.R_drewN | apply Kd.R_drew)); exact HO160.out) hb); have n1_ := Aside0.mk (Kd.R_lower ho0 (below_size (by repeat (first | (with_reducible first | exact HB.out | apply below_alloc | apply pw_below_drewN | apply below_drew1) | exact HB.out)))); have n2_ := Aside0.mk (below_step (by repeat (first | (with_reducible first | exact HB.out | apply below_alloc | apply pw_below_drewN | apply below_drew1) | exact HB.out)) hb); clear HO160; clear HB; have HO160 := n0_; have HO164 := n1_; have HB := n2_; clear n0_ n1_ n2_; (try clear hb); (try clear hb2); (try clear hk); (try clear hi); (try clear ho0)) | ((with_reducible refine gate_callee (f := 9) rfl ?_); refine goesL_ (some 25) rfl rfl Try.func9 (by kernel_rfl) rfl #[.slice A0 l0.length c0] rfl (by (try simp only [List.map_toArray, List.map_cons, List.map_nil]); first | done | rfl | (simp only [List.length_drop, List.length_take]; rfl)) ?_; (with_reducible refine (dragomanref23_Put.calls k _ _ l0 t165 t166 _ ?side1 ?side2 A8.out).mono ?_); (case side1 => repeat (first | exact (Kd.C_below HR0.out HB.out) | (with_reducible refine Kd.C_alloc ?_ _) | (with_reducible refine Kd.C_drewN ?_ _) | (with_reducible refine Kd.C_drew ?_))); (case side2 => exact HC0.out); rintro e w16 ⟨v167, rfl, ho0, hb⟩; refine ⟨_, rfl, ?_⟩; have n0_ := Aside0.mk (Kd.R_below (by (with_reducible repeat (first | apply Kd.R_alloc | apply Kd.R_drewN | apply Kd.R_drew)); exact HO160.out) hb); have n1_ := Aside0.mk (Kd.R_elder' (by (with_reducible repeat (first | apply Kd.R_alloc | apply Kd.R_drewN | apply Kd.R_drew)); exact HO164.out) (Kd.R_base ho0) hb); have n2_ := Aside0.mk (Kd.R_lower (Kd.R_new' ho0 (Kd.R_lt (by (with_reducible repeat (first | apply Kd.R_alloc | apply Kd.R_drewN | apply Kd.R_drew)); exact HO164.out))) (below_size (by repeat (first | (with_reducible first | exact HB.out | apply below_alloc | apply pw_below_drewN | apply below_drew1) | exact HB.out)))); have n3_ := Aside0.mk (below_step (by repeat (first | (with_reducible first | exact HB.out | apply below_alloc | apply pw_below_drewN | apply below_drew1) | exact HB.out)) hb); clear HO160; clear HO164; clear HB; have HO160 := n0_; have HO164 := n1_; have HO168 := n2_; have HB := n3_; clear n0_ n1_ n2_ n3_; (try clear hb); (try clear hb2); (try clear hk); (try clear hi); (try clear ho0)))
        (try simp only [Act.put, List.setIfInBounds_toArray, List.set_cons_zero, List.set_cons_succ])
        go_cut [42] (fun v42 wc => ∃ (kq : Nat) (x42_8 : Bool), v42 = .bool x42_8 ∧ Aside0 (dragomanlaw23_NlriPuts.j0 kq l0 x42_8 = some r) ∧ Aside0 (kq ≤ k) ∧ Aside0 (Below w.heap.size w wc))
        case first =>
          have H := HC9.out
          clear HC9
          by_cases c17 : t162 = t166
          · rw [if_pos c17] at H
            have c17b0 : (t162 == t166) = true := beq_iff_eq.mpr c17
            have c17b1 : (t162 != t166) = false := bne_eq_false_iff_eq.mpr c17
            clear c17
            (first | rw [c17b0] | (simp only [i64_w, i32_w]; rw [c17b0]) | skip)
            replace H := Option.bind_eq_some_iff.mp H
            obtain ⟨t169, A180, H⟩ := H
            replace H : (if t169 = true then ((dragomanref23_Same.f k y158 l0).bind fun t170 => (dragomanlaw23_NlriPuts.j0 k l0 (!t170))) else (dragomanlaw23_NlriPuts.j0 k l0 true)) = some r := H
            have A18 := Aside0.mk A180
            clear A180
            by_cases c19 : t169 = true
            · subst c19
              have H1 : ((dragomanref23_Same.f k y158 l0).bind fun t170 => (dragomanlaw23_NlriPuts.j0 k l0 (!t170))) = some r := by rw [if_pos rfl] at H; exact H
              clear H
              have H := H1
              clear H1
              replace H := Option.bind_eq_some_iff.mp H
              obtain ⟨t170, A200, H⟩ := H
              replace H : (dragomanlaw23_NlriPuts.j0 k l0 (!t170)) = some r := H
              have A20 := Aside0.mk A200
              clear A200
              have H' := Aside0.mk H
              clear H
              obtain ⟨Ao21, co21, eo21⟩ := Kd.R_slice HO164.out
              subst eo21
              obtain ⟨Ao22, co22, eo22⟩ := Kd.R_slice HO168.out
              subst eo22
              go_wp2_with (first | (go_at_call 10; (with_reducible refine (dragomanref23_Bytes.calls k _ _ t161 _ _ t165 true _ ?side1 ?side2 ?side3 ?side4 A18.out).mono ?_); (case side1 => repeat (first | exact (Kd.R_reads' HO164.out).2.2 | (with_reducible refine Kd.C_alloc ?_ _) | (with_reducible refine Kd.C_drewN ?_ _) | (with_reducible refine Kd.C_drew ?_))); (case side2 => exact (Kd.R_reads' HO164.out).2.1); (case side3 => repeat (first | exact (Kd.R_reads' HO168.out).2.2 | (with_reducible refine Kd.C_alloc ?_ _) | (with_reducible refine Kd.C_drewN ?_ _) | (with_reducible refine Kd.C_drew ?_))); (case side4 => exact (Kd.R_reads' HO168.out).2.1); rintro e w' ⟨rfl, ⟨nd, rfl⟩⟩) | (go_at_call 11; (with_reducible refine (dragomanref23_Same.calls k _ _ y158 _ _ l0 t170 _ ?side1 ?side2 ?side3 ?side4 A20.out).mono ?_); (case side1 => repeat (first | exact (Kd.R_reads' HO160.out).2.2 | (with_reducible refine Kd.C_alloc ?_ _) | (with_reducible refine Kd.C_drewN ?_ _) | (with_reducible refine Kd.C_drew ?_))); (case side2 => exact (Kd.R_reads' HO160.out).2.1); (case side3 => repeat (first | exact (Kd.C_below HR0.out (by repeat (first | (with_reducible first | exact HB.out | apply below_alloc | apply pw_below_drewN | apply below_drew1) | exact HB.out))) | (with_reducible refine Kd.C_alloc ?_ _) | (with_reducible refine Kd.C_drewN ?_ _) | (with_reducible refine Kd.C_drew ?_))); (case side4 => exact HC0.out); rintro e w' ⟨rfl, ⟨nd, rfl⟩⟩))
              go_meet
              case rel => exact ⟨_, (!t170), (by first | rfl | (simp; done) | (simp [*]; done)), H', ⟨by first | omega | exact Nat.le_refl _⟩, ⟨by repeat (first | (with_reducible first | exact HB.out | apply below_alloc | apply pw_below_drewN | apply below_drew1) | exact HB.out)⟩⟩
            · replace c19 := Bool.eq_false_iff.mpr c19
              subst c19
              have H1 : (dragomanlaw23_NlriPuts.j0 k l0 true) = some r := by rw [if_neg (show ¬ (false = true) by decide)] at H; exact H
              clear H
              have H := H1
              clear H1
              have H' := Aside0.mk H
              clear H
              obtain ⟨Ao23, co23, eo23⟩ := Kd.R_slice HO164.out
              subst eo23
              obtain ⟨Ao24, co24, eo24⟩ := Kd.R_slice HO168.out
              subst eo24
              go_wp2_with (first | (go_at_call 10; (with_reducible refine (dragomanref23_Bytes.calls k _ _ t161 _ _ t165 false _ ?side1 ?side2 ?side3 ?side4 A18.out).mono ?_); (case side1 => repeat (first | exact (Kd.R_reads' HO164.out).2.2 | (with_reducible refine Kd.C_alloc ?_ _) | (with_reducible refine Kd.C_drewN ?_ _) | (with_reducible refine Kd.C_drew ?_))); (case side2 => exact (Kd.R_reads' HO164.out).2.1); (case side3 => repeat (first | exact (Kd.R_reads' HO168.out).2.2 | (with_reducible refine Kd.C_alloc ?_ _) | (with_reducible refine Kd.C_drewN ?_ _) | (with_reducible refine Kd.C_drew ?_))); (case side4 => exact (Kd.R_reads' HO168.out).2.1); rintro e w' ⟨rfl, ⟨nd, rfl⟩⟩))
              go_meet
              case rel => exact ⟨_, (true), (by first | rfl | (simp; done) | (simp [*]; done)), H', ⟨by first | omega | exact Nat.le_refl _⟩, ⟨by repeat (first | (with_reducible first | exact HB.out | apply below_alloc | apply pw_below_drewN | apply below_drew1) | exact HB.out)⟩⟩
          · rw [if_neg c17] at H
            have c17b0 : (t162 == t166) = false := beq_eq_false_iff_ne.mpr c17
            have c17b1 : (t162 != t166) = true := bne_iff_ne.mpr c17
            (first | rw [c17b0] | (simp only [i64_w, i32_w]; rw [c17b0]) | skip)
            have H' := Aside0.mk H
            clear H
            go_wp2
            go_meet
            case rel => exact ⟨_, (true), (by first | rfl | (simp; done) | (simp [*]; done)), H', ⟨by first | omega | exact Nat.le_refl _⟩, ⟨by repeat (first | (with_reducible first | exact HB.out | apply below_alloc | apply pw_below_drewN | apply below_drew1) | exact HB.out)⟩⟩
        case rest =>
          clear HC9
          try clear c1
          try clear p2
          try clear c3
          try clear c4
          try clear c4b0
          try clear c4b1
          try clear c6
          try clear c7
          try clear c8
          try clear c9
          try clear c17
          try clear c17b0
          try clear c17b1
          try clear c19
          obtain ⟨kq, x42_8, rfl, HA, HJ8, HB⟩ := hcut
          cases kq with
          | zero => exact absurd HA.out (by simp [dragomanlaw23_NlriPuts.j0])
          | succ kj8 =>
            have H := HA.out
            clear HA
            simp only [dragomanlaw23_NlriPuts.j0] at H
            by_cases c25 : x42_8 = true
            · subst c25
              have H1 : (some false) = some r := by rw [if_pos rfl] at H; exact H
              clear H
              have H := H1
              clear H1
              obtain rfl := Option.some.inj H
              go_wp2
              go_ret
              exact ⟨by first | rfl | (simp [errW_none, errW_some] <;> rfl) | (simp [*, errW_none, errW_some] <;> rfl), by repeat (first | (with_reducible first | exact HB.out | apply below_alloc | apply pw_below_drewN | apply below_drew1) | exact HB.out)⟩
            · replace c25 := Bool.eq_false_iff.mpr c25
              subst c25
              have H1 : (dragomanlaw23_NlriPuts.l0 kj8 l0 (l0.length : Int) 0) = some r := by rw [if_neg (show ¬ (false = true) by decide)] at H; exact H
              clear H
              have H := H1
              clear H1
              have H' := Aside0.mk H
              clear H
              go_wp2
              go_loopg [45] kj8 (fun kq v45 w' => ∃ (x45_2 : Int), v45 = .int .i64 x45_2 ∧ Aside0 (dragomanlaw23_NlriPuts.l0 kq l0 (l0.length : Int) x45_2 = some r) ∧ Aside0 (kq ≤ kj8) ∧ Aside0 (Below w.heap.size w w'))
              case atStart => exact ⟨(0), (by first | rfl | (simp; done) | (simp [*]; done)), H', ⟨Nat.le_refl _⟩, ⟨by repeat (first | (with_reducible first | exact HB.out | apply below_alloc | apply pw_below_drewN | apply below_drew1) | exact HB.out)⟩⟩
              case round =>
                clear H'
                try clear c1
                try clear c2
                try clear p2
                try clear c3
                try clear c4
                try clear c4b0
                try clear c4b1
                try clear c6
                try clear c7
                try clear c8
                try clear c9
                try clear c17
                try clear c17b0
                try clear c17b1
                try clear c19
                try clear c25
                try clear p2
                obtain ⟨x45_2, rfl, HA, HK2, HB⟩ := hrel
                cases gk with
                | zero => exact absurd HA.out (by simp [dragomanlaw23_NlriPuts.l0])
                | succ k2 =>
                  have H := HA.out
                  clear HA
                  simp only [dragomanlaw23_NlriPuts.l0] at H
                  by_cases c26 : x45_2 < (l0.length : Int)
                  · rw [if_pos c26] at H
                    have c26b0 : decide (x45_2 < (l0.length : Int)) = true := decide_eq_true c26
                    clear c26
                    by_cases c27 : 0 ≤ x45_2
                    · rw [if_pos c27] at H
                      have c27b0 : decide (0 ≤ x45_2) = true := decide_eq_true c27
                      clear c27
                      by_cases c28 : x45_2 < (l0.length : Int)
                      · rw [if_pos c28] at H
                        have c28b0 : decide (x45_2 < (l0.length : Int)) = true := decide_eq_true c28
                        clear c28
                        replace H := Option.bind_eq_some_iff.mp H
                        obtain ⟨t173, A290, H⟩ := H
                        replace H : ((dragomanref23_Size.f k2 ((rd_T34 l0 x45_2).f0) ((rd_T34 l0 x45_2).f1)).bind fun t174 => (if t173 = t174 then (dragomanlaw23_NlriPuts.l0 k2 l0 (l0.length : Int) (wrap64 (x45_2 + 1))) else (some false))) = some r := H
                        have A29 := Aside0.mk A290
                        clear A290
                        replace H := Option.bind_eq_some_iff.mp H
                        obtain ⟨t174, A300, H⟩ := H
                        replace H : (if t173 = t174 then (dragomanlaw23_NlriPuts.l0 k2 l0 (l0.length : Int) (wrap64 (x45_2 + 1))) else (some false)) = some r := H
                        have A30 := Aside0.mk A300
                        clear A300
                        by_cases c31 : t173 = t174
                        · rw [if_pos c31] at H
                          have c31b0 : (t173 == t174) = true := beq_iff_eq.mpr c31
                          have c31b1 : (t173 != t174) = false := bne_eq_false_iff_eq.mpr c31
                          clear c31
                          have H' := Aside0.mk H
                          clear H
                          have p171 : 0 ≤ (x45_2 : Int) := of_decide_eq_true (by first | (with_reducible assumption) | assumption)
                          have q171 : x45_2 < (l0.length : Int) := of_decide_eq_true (by first | (with_reducible assumption) | assumption)
                          obtain ⟨ad171, e171, hx171_0, hx171_1⟩ := at_T34 HR0.out x45_2 p171 q171
                          cases e171
                          replace hx171_0 := (HB.out.cell (World.block_lt_of_cell? w _ hx171_0)).trans hx171_0
                          replace hx171_1 := (HB.out.cell (World.block_lt_of_cell? w _ hx171_1)).trans hx171_1
                          replace p171 := eq_true p171
                          replace q171 := eq_true q171
                          try go_wp2_with (first | ((with_reducible refine gate_dst (N := 9) rfl ?_); refine box_event ?hg (N := 9) ?hd (cs := #[.int .u32 0, .int .i64 0]) (t := 34) ?hr ?_; (case hd => rfl); (case hg => rfl); (case hr => first | (go_simp; done) | (go_simp; rfl)); intro gb172 hg w32 hbox hb; have n0_ := Aside0.mk (below_step (by repeat (first | (with_reducible first | exact HB.out | apply below_alloc | apply pw_below_drewN | apply below_drew1) | exact HB.out)) hb); have n1_ := Aside0.mk (hbox); have n2_ := Aside0.mk ((by rw [hg]; exact (below_size (by repeat (first | (with_reducible first | exact HB.out | apply below_alloc | apply pw_below_drewN | apply below_drew1) | exact HB.out))) : w.heap.size ≤ gb172)); have n3_ := Aside0.mk ((by rw [hg]; exact (below_size (by repeat (first | (with_reducible first | exact HB.out | apply below_alloc | apply pw_below_drewN | apply below_drew1) | exact HB.out))) : w.heap.size ≤ gb172)); clear HB; have HB := n0_; have BK172 := n1_; have GW172 := n2_; have GE172 := n3_; clear n0_ n1_ n2_ n3_; clear hb hbox hg; have hcz33_0 : w32.cell? ⟨gb172, 0, none⟩ = some (.int .u32 0) := (blk_cell BK172.out 0).trans rfl; have hcz33_1 : w32.cell? ⟨gb172, 1, none⟩ = some (.int .i64 0) := (blk_cell BK172.out 1).trans rfl; have hfz33_0 := blk_frozen BK172.out 0; have hfz33_1 := blk_frozen BK172.out 1))
                          have n0_ : Aside0 (((w32.setCell ⟨gb172, 0, none⟩ (.int .u32 ((rd_T34 l0 x45_2).f0))).setCell ⟨gb172, 1, none⟩ (.int .i64 ((rd_T34 l0 x45_2).f1))).heap[gb172]? = some (.cells #[.int .u32 ((rd_T34 l0 x45_2).f0), .int .i64 ((rd_T34 l0 x45_2).f1)] 34 (0, 0))) := ⟨by (with_reducible repeat (first | refine blk_drewN ?_ _ | refine blk_drew ?_ | refine blk_alloc ?_ _)); refine blk_put (cs := #[.int .u32 ((rd_T34 l0 x45_2).f0), .int .i64 0]) ?_ 1 _ rfl; (with_reducible repeat (first | refine blk_drewN ?_ _ | refine blk_drew ?_ | refine blk_alloc ?_ _)); refine blk_put (cs := #[.int .u32 0, .int .i64 0]) ?_ 0 _ rfl; (with_reducible repeat (first | refine blk_drewN ?_ _ | refine blk_drew ?_ | refine blk_alloc ?_ _)); exact BK172.out⟩
                          have n1_ : Aside0 (Below w.heap.size w ((w32.setCell ⟨gb172, 0, none⟩ (.int .u32 ((rd_T34 l0 x45_2).f0))).setCell ⟨gb172, 1, none⟩ (.int .i64 ((rd_T34 l0 x45_2).f1)))) := ⟨by repeat (first | (with_reducible first | exact HB.out | apply below_alloc | apply pw_below_drewN | apply below_drew1 | refine below_set ?_ GE172.out) | exact HB.out)⟩
                          (try clear BK172)
                          (try clear HB)
                          generalize ((w32.setCell ⟨gb172, 0, none⟩ (.int .u32 ((rd_T34 l0 x45_2).f0))).setCell ⟨gb172, 1, none⟩ (.int .i64 ((rd_T34 l0 x45_2).f1))) = w34 at n0_ n1_ ⊢
                          have BK172 := n0_
                          have HB := n1_
                          clear n0_ n1_
                          have n0_ := Aside0.mk (blk_drew BK172.out)
                          have n1_ := Aside0.mk (below_drew1 HB.out)
                          clear BK172
                          clear HB
                          have BK172 := n0_
                          have HB := n1_
                          clear n0_ n1_
                          refine start_ (n := 5) (S := fun w' => w'.cell? ⟨gb172, 0, none⟩ = some (.int .u32 ((rd_T34 l0 x45_2).f0)) ∧ w'.cell? ⟨gb172, 1, none⟩ = some (.int .i64 ((rd_T34 l0 x45_2).f1))) (ds := []) #[false, false, false, false, false] (by kernel_rfl) rfl rfl ⟨(blk_cell BK172.out 0).trans rfl, (blk_cell BK172.out 1).trans rfl⟩ (fun hHeld => ?_)
                          generalize w34.drew = w35 at BK172 HB hHeld ⊢
                          refine take_ (i := 0) (N := some 49) (v := ?_) (a' := ?_) #[true, false, false, false, false] rfl rfl (by kernel_rfl) (fun _ _ _ h => h) (Or.inl ⟨by rfl, ?_⟩) hHeld ?_ ?_
                          rotate_left
                          · rintro w' ⟨s0, s1⟩
                            go_simp
                            with_reducible rfl
                          rotate_left
                          · simp only [Act.put, List.setIfInBounds_toArray, List.set_cons_zero, List.set_cons_succ, i64_w, i32_w]
                            rfl
                          refine take_ (i := 2) (N := some 51) (v := ?_) (a' := ?_) #[true, false, true, false, false] rfl rfl (by kernel_rfl) (fun _ _ _ h => h) (Or.inl ⟨by rfl, ?_⟩) hHeld ?_ ?_
                          rotate_left
                          · rintro w' ⟨s0, s1⟩
                            go_simp
                            with_reducible rfl
                          rotate_left
                          · simp only [Act.put, List.setIfInBounds_toArray, List.set_cons_zero, List.set_cons_succ, i64_w, i32_w]
                            rfl
                          refine one_ (i := 1) (N := some 50) #[true, true, true, false, false] rfl rfl (by kernel_rfl) (by decide) (fun K hK => ?_)
                          refine goes_ Try.func12 (by kernel_rfl) rfl #[.agg #[.int .u32 ((rd_T34 l0 x45_2).f0), .int .i64 ((rd_T34 l0 x45_2).f1)]] (by rfl) rfl rfl (by (try simp only [List.map_toArray, List.map_cons, List.map_nil]); first | done | rfl | (simp only [List.length_drop, List.length_take]; rfl)) ?_
                          with_reducible refine (nlri_Size.calls ((rd_T34 l0 x45_2).f0) ((rd_T34 l0 x45_2).f1) t173 _ A29.out).mono ?_
                          rintro e w36 ⟨rfl, hb⟩
                          refine ⟨_, rfl, ?_⟩
                          have n0_ := Aside0.mk (blk_below (g := gb172) (o := .cells #[.int .u32 ((rd_T34 l0 x45_2).f0), .int .i64 ((rd_T34 l0 x45_2).f1)] 34 (0, 0)) (by (with_reducible repeat (first | refine blk_drewN ?_ _ | refine blk_drew ?_ | refine blk_alloc ?_ _)); exact BK172.out) hb)
                          have n1_ := Aside0.mk (below_step (by repeat (first | (with_reducible first | exact HB.out | apply below_alloc | apply pw_below_drewN | apply below_drew1 | refine below_set ?_ GE172.out) | exact HB.out)) hb)
                          clear BK172
                          clear HB
                          have BK172 := n0_
                          have HB := n1_
                          clear n0_ n1_
                          (try clear hb)
                          (try clear hb2)
                          (try clear hk)
                          (try clear hi)
                          refine hK.out _ _ ⟨(blk_cell BK172.out 0).trans rfl, (blk_cell BK172.out 1).trans rfl⟩ (fun hHeld => ?_)
                          clear hK K
                          refine norm_ (a' := ?_) ?_ ?_
                          rotate_left
                          · show Act.put _ (some 50) _ = _
                            simp only [Act.put, List.setIfInBounds_toArray, List.set_cons_zero, List.set_cons_succ, i64_w, i32_w]
                            rfl
                          refine one_ (i := 3) (N := some 52) #[true, true, true, true, false] rfl rfl (by kernel_rfl) (by decide) (fun K hK => ?_)
                          refine goes_ Try.func13 (by kernel_rfl) rfl #[.agg #[.int .u32 ((rd_T34 l0 x45_2).f0), .int .i64 ((rd_T34 l0 x45_2).f1)]] (by rfl) rfl rfl (by (try simp only [List.map_toArray, List.map_cons, List.map_nil]); first | done | rfl | (simp only [List.length_drop, List.length_take]; rfl)) ?_
                          with_reducible refine (dragomanref23_Size.calls k2 ((rd_T34 l0 x45_2).f0) ((rd_T34 l0 x45_2).f1) t174 _ A30.out).mono ?_
                          rintro e w37 ⟨rfl, hb⟩
                          refine ⟨_, rfl, ?_⟩
                          have n0_ := Aside0.mk (blk_below (g := gb172) (o := .cells #[.int .u32 ((rd_T34 l0 x45_2).f0), .int .i64 ((rd_T34 l0 x45_2).f1)] 34 (0, 0)) (by (with_reducible repeat (first | refine blk_drewN ?_ _ | refine blk_drew ?_ | refine blk_alloc ?_ _)); exact BK172.out) hb)
                          have n1_ := Aside0.mk (below_step (by repeat (first | (with_reducible first | exact HB.out | apply below_alloc | apply pw_below_drewN | apply below_drew1 | refine below_set ?_ GE172.out) | exact HB.out)) hb)
                          clear BK172
                          clear HB
                          have BK172 := n0_
                          have HB := n1_
                          clear n0_ n1_
                          (try clear hb)
                          (try clear hb2)
                          (try clear hk)
                          (try clear hi)
                          refine hK.out _ _ ⟨(blk_cell BK172.out 0).trans rfl, (blk_cell BK172.out 1).trans rfl⟩ (fun hHeld => ?_)
                          clear hK K
                          refine norm_ (a' := ?_) ?_ ?_
                          rotate_left
                          · show Act.put _ (some 52) _ = _
                            simp only [Act.put, List.setIfInBounds_toArray, List.set_cons_zero, List.set_cons_succ, i64_w, i32_w]
                            rfl
                          refine pure_ (i := 4) (N := some 53) (v := ?_) (a' := ?_) #[true, true, true, true, true] rfl rfl (by kernel_rfl) (fun _ _ _ h => h) (Or.inl ⟨by rfl, ?_⟩) ?_ ?_
                          rotate_left
                          · intro w'
                            go_simp
                            with_reducible rfl
                          rotate_left
                          · simp only [Act.put, List.setIfInBounds_toArray, List.set_cons_zero, List.set_cons_succ, i64_w, i32_w]
                            rfl
                          refine done_ (by kernel_rfl) ?_
                          try go_wp2
                          go_roundg k2
                          case measure => have := HJ8.out; have := HK2.out; omega
                          case rel => exact ⟨(wrap64 (x45_2 + 1)), (by first | rfl | (simp; done) | (simp [*]; done)), H', ⟨by have := HJ8.out; have := HK2.out; omega⟩, ⟨by repeat (first | (with_reducible first | exact HB.out | apply below_alloc | apply pw_below_drewN | apply below_drew1 | refine below_set ?_ GE172.out) | exact HB.out)⟩⟩
                        · rw [if_neg c31] at H
                          have c31b0 : (t173 == t174) = false := beq_eq_false_iff_ne.mpr c31
                          have c31b1 : (t173 != t174) = true := bne_iff_ne.mpr c31
                          obtain rfl := Option.some.inj H
                          have p171 : 0 ≤ (x45_2 : Int) := of_decide_eq_true (by first | (with_reducible assumption) | assumption)
                          have q171 : x45_2 < (l0.length : Int) := of_decide_eq_true (by first | (with_reducible assumption) | assumption)
                          obtain ⟨ad171, e171, hx171_0, hx171_1⟩ := at_T34 HR0.out x45_2 p171 q171
                          cases e171
                          replace hx171_0 := (HB.out.cell (World.block_lt_of_cell? w _ hx171_0)).trans hx171_0
                          replace hx171_1 := (HB.out.cell (World.block_lt_of_cell? w _ hx171_1)).trans hx171_1
                          replace p171 := eq_true p171
                          replace q171 := eq_true q171
                          try go_wp2_with (first | ((with_reducible refine gate_dst (N := 9) rfl ?_); refine box_event ?hg (N := 9) ?hd (cs := #[.int .u32 0, .int .i64 0]) (t := 34) ?hr ?_; (case hd => rfl); (case hg => rfl); (case hr => first | (go_simp; done) | (go_simp; rfl)); intro gb172 hg w38 hbox hb; have n0_ := Aside0.mk (below_step (by repeat (first | (with_reducible first | exact HB.out | apply below_alloc | apply pw_below_drewN | apply below_drew1) | exact HB.out)) hb); have n1_ := Aside0.mk (hbox); have n2_ := Aside0.mk ((by rw [hg]; exact (below_size (by repeat (first | (with_reducible first | exact HB.out | apply below_alloc | apply pw_below_drewN | apply below_drew1) | exact HB.out))) : w.heap.size ≤ gb172)); have n3_ := Aside0.mk ((by rw [hg]; exact (below_size (by repeat (first | (with_reducible first | exact HB.out | apply below_alloc | apply pw_below_drewN | apply below_drew1) | exact HB.out))) : w.heap.size ≤ gb172)); clear HB; have HB := n0_; have BK172 := n1_; have GW172 := n2_; have GE172 := n3_; clear n0_ n1_ n2_ n3_; clear hb hbox hg; have hcz39_0 : w38.cell? ⟨gb172, 0, none⟩ = some (.int .u32 0) := (blk_cell BK172.out 0).trans rfl; have hcz39_1 : w38.cell? ⟨gb172, 1, none⟩ = some (.int .i64 0) := (blk_cell BK172.out 1).trans rfl; have hfz39_0 := blk_frozen BK172.out 0; have hfz39_1 := blk_frozen BK172.out 1))
                          have n0_ : Aside0 (((w38.setCell ⟨gb172, 0, none⟩ (.int .u32 ((rd_T34 l0 x45_2).f0))).setCell ⟨gb172, 1, none⟩ (.int .i64 ((rd_T34 l0 x45_2).f1))).heap[gb172]? = some (.cells #[.int .u32 ((rd_T34 l0 x45_2).f0), .int .i64 ((rd_T34 l0 x45_2).f1)] 34 (0, 0))) := ⟨by (with_reducible repeat (first | refine blk_drewN ?_ _ | refine blk_drew ?_ | refine blk_alloc ?_ _)); refine blk_put (cs := #[.int .u32 ((rd_T34 l0 x45_2).f0), .int .i64 0]) ?_ 1 _ rfl; (with_reducible repeat (first | refine blk_drewN ?_ _ | refine blk_drew ?_ | refine blk_alloc ?_ _)); refine blk_put (cs := #[.int .u32 0, .int .i64 0]) ?_ 0 _ rfl; (with_reducible repeat (first | refine blk_drewN ?_ _ | refine blk_drew ?_ | refine blk_alloc ?_ _)); exact BK172.out⟩
                          have n1_ : Aside0 (Below w.heap.size w ((w38.setCell ⟨gb172, 0, none⟩ (.int .u32 ((rd_T34 l0 x45_2).f0))).setCell ⟨gb172, 1, none⟩ (.int .i64 ((rd_T34 l0 x45_2).f1)))) := ⟨by repeat (first | (with_reducible first | exact HB.out | apply below_alloc | apply pw_below_drewN | apply below_drew1 | refine below_set ?_ GE172.out) | exact HB.out)⟩
                          (try clear BK172)
                          (try clear HB)
                          generalize ((w38.setCell ⟨gb172, 0, none⟩ (.int .u32 ((rd_T34 l0 x45_2).f0))).setCell ⟨gb172, 1, none⟩ (.int .i64 ((rd_T34 l0 x45_2).f1))) = w40 at n0_ n1_ ⊢
                          have BK172 := n0_
                          have HB := n1_
                          clear n0_ n1_
                          have n0_ := Aside0.mk (blk_drew BK172.out)
                          have n1_ := Aside0.mk (below_drew1 HB.out)
                          clear BK172
                          clear HB
                          have BK172 := n0_
                          have HB := n1_
                          clear n0_ n1_
                          refine start_ (n := 5) (S := fun w' => w'.cell? ⟨gb172, 0, none⟩ = some (.int .u32 ((rd_T34 l0 x45_2).f0)) ∧ w'.cell? ⟨gb172, 1, none⟩ = some (.int .i64 ((rd_T34 l0 x45_2).f1))) (ds := []) #[false, false, false, false, false] (by kernel_rfl) rfl rfl ⟨(blk_cell BK172.out 0).trans rfl, (blk_cell BK172.out 1).trans rfl⟩ (fun hHeld => ?_)
                          generalize w40.drew = w41 at BK172 HB hHeld ⊢
                          refine take_ (i := 0) (N := some 49) (v := ?_) (a' := ?_) #[true, false, false, false, false] rfl rfl (by kernel_rfl) (fun _ _ _ h => h) (Or.inl ⟨by rfl, ?_⟩) hHeld ?_ ?_
                          rotate_left
                          · rintro w' ⟨s0, s1⟩
                            go_simp
                            with_reducible rfl
                          rotate_left
                          · simp only [Act.put, List.setIfInBounds_toArray, List.set_cons_zero, List.set_cons_succ, i64_w, i32_w]
                            rfl
                          refine take_ (i := 2) (N := some 51) (v := ?_) (a' := ?_) #[true, false, true, false, false] rfl rfl (by kernel_rfl) (fun _ _ _ h => h) (Or.inl ⟨by rfl, ?_⟩) hHeld ?_ ?_
                          rotate_left
                          · rintro w' ⟨s0, s1⟩
                            go_simp
                            with_reducible rfl
                          rotate_left
                          · simp only [Act.put, List.setIfInBounds_toArray, List.set_cons_zero, List.set_cons_succ, i64_w, i32_w]
                            rfl
                          refine one_ (i := 1) (N := some 50) #[true, true, true, false, false] rfl rfl (by kernel_rfl) (by decide) (fun K hK => ?_)
                          refine goes_ Try.func12 (by kernel_rfl) rfl #[.agg #[.int .u32 ((rd_T34 l0 x45_2).f0), .int .i64 ((rd_T34 l0 x45_2).f1)]] (by rfl) rfl rfl (by (try simp only [List.map_toArray, List.map_cons, List.map_nil]); first | done | rfl | (simp only [List.length_drop, List.length_take]; rfl)) ?_
                          with_reducible refine (nlri_Size.calls ((rd_T34 l0 x45_2).f0) ((rd_T34 l0 x45_2).f1) t173 _ A29.out).mono ?_
                          rintro e w42 ⟨rfl, hb⟩
                          refine ⟨_, rfl, ?_⟩
                          have n0_ := Aside0.mk (blk_below (g := gb172) (o := .cells #[.int .u32 ((rd_T34 l0 x45_2).f0), .int .i64 ((rd_T34 l0 x45_2).f1)] 34 (0, 0)) (by (with_reducible repeat (first | refine blk_drewN ?_ _ | refine blk_drew ?_ | refine blk_alloc ?_ _)); exact BK172.out) hb)
                          have n1_ := Aside0.mk (below_step (by repeat (first | (with_reducible first | exact HB.out | apply below_alloc | apply pw_below_drewN | apply below_drew1 | refine below_set ?_ GE172.out) | exact HB.out)) hb)
                          clear BK172
                          clear HB
                          have BK172 := n0_
                          have HB := n1_
                          clear n0_ n1_
                          (try clear hb)
                          (try clear hb2)
                          (try clear hk)
                          (try clear hi)
                          refine hK.out _ _ ⟨(blk_cell BK172.out 0).trans rfl, (blk_cell BK172.out 1).trans rfl⟩ (fun hHeld => ?_)
                          clear hK K
                          refine norm_ (a' := ?_) ?_ ?_
                          rotate_left
                          · show Act.put _ (some 50) _ = _
                            simp only [Act.put, List.setIfInBounds_toArray, List.set_cons_zero, List.set_cons_succ, i64_w, i32_w]
                            rfl
                          refine one_ (i := 3) (N := some 52) #[true, true, true, true, false] rfl rfl (by kernel_rfl) (by decide) (fun K hK => ?_)
                          refine goes_ Try.func13 (by kernel_rfl) rfl #[.agg #[.int .u32 ((rd_T34 l0 x45_2).f0), .int .i64 ((rd_T34 l0 x45_2).f1)]] (by rfl) rfl rfl (by (try simp only [List.map_toArray, List.map_cons, List.map_nil]); first | done | rfl | (simp only [List.length_drop, List.length_take]; rfl)) ?_
                          with_reducible refine (dragomanref23_Size.calls k2 ((rd_T34 l0 x45_2).f0) ((rd_T34 l0 x45_2).f1) t174 _ A30.out).mono ?_
                          rintro e w43 ⟨rfl, hb⟩
                          refine ⟨_, rfl, ?_⟩
                          have n0_ := Aside0.mk (blk_below (g := gb172) (o := .cells #[.int .u32 ((rd_T34 l0 x45_2).f0), .int .i64 ((rd_T34 l0 x45_2).f1)] 34 (0, 0)) (by (with_reducible repeat (first | refine blk_drewN ?_ _ | refine blk_drew ?_ | refine blk_alloc ?_ _)); exact BK172.out) hb)
                          have n1_ := Aside0.mk (below_step (by repeat (first | (with_reducible first | exact HB.out | apply below_alloc | apply pw_below_drewN | apply below_drew1 | refine below_set ?_ GE172.out) | exact HB.out)) hb)
                          clear BK172
                          clear HB
                          have BK172 := n0_
                          have HB := n1_
                          clear n0_ n1_
                          (try clear hb)
                          (try clear hb2)
                          (try clear hk)
                          (try clear hi)
                          refine hK.out _ _ ⟨(blk_cell BK172.out 0).trans rfl, (blk_cell BK172.out 1).trans rfl⟩ (fun hHeld => ?_)
                          clear hK K
                          refine norm_ (a' := ?_) ?_ ?_
                          rotate_left
                          · show Act.put _ (some 52) _ = _
                            simp only [Act.put, List.setIfInBounds_toArray, List.set_cons_zero, List.set_cons_succ, i64_w, i32_w]
                            rfl
                          refine pure_ (i := 4) (N := some 53) (v := ?_) (a' := ?_) #[true, true, true, true, true] rfl rfl (by kernel_rfl) (fun _ _ _ h => h) (Or.inl ⟨by rfl, ?_⟩) ?_ ?_
                          rotate_left
                          · intro w'
                            go_simp
                            with_reducible rfl
                          rotate_left
                          · simp only [Act.put, List.setIfInBounds_toArray, List.set_cons_zero, List.set_cons_succ, i64_w, i32_w]
                            rfl
                          refine done_ (by kernel_rfl) ?_
                          try go_wp2
                          go_ret
                          exact ⟨by first | rfl | (simp [errW_none, errW_some] <;> rfl) | (simp [*, errW_none, errW_some] <;> rfl), by repeat (first | (with_reducible first | exact HB.out | apply below_alloc | apply pw_below_drewN | apply below_drew1 | refine below_set ?_ GE172.out) | exact HB.out)⟩
                      · rw [if_neg c28] at H
                        exact absurd H (by simp)
                    · rw [if_neg c27] at H
                      exact absurd H (by simp)
                  · rw [if_neg c26] at H
                    have c26b0 : decide (x45_2 < (l0.length : Int)) = false := decide_eq_false c26
                    clear c26
                    obtain rfl := Option.some.inj H
                    go_wp2
                    go_ret
                    exact ⟨by first | rfl | (simp [errW_none, errW_some] <;> rfl) | (simp [*, errW_none, errW_some] <;> rfl), by repeat (first | (with_reducible first | exact HB.out | apply below_alloc | apply pw_below_drewN | apply below_drew1) | exact HB.out)⟩
      · rw [if_neg c6] at H
        exact absurd H (by simp)
  · replace c3 := Bool.eq_false_iff.mpr c3
    subst c3
    have H1 : (some false) = some r := by rw [if_neg (show ¬ (false = true) by decide)] at H; exact H
    clear H
    have H := H1
    clear H1
    obtain rfl := Option.some.inj H
    go_enter Try.func3, Try.ntmps3
    go_wp2_with (first | ((with_reducible refine gate_callee (f := 7) rfl ?_); refine goesL_ (some 10) rfl rfl Try.func7 (by kernel_rfl) rfl #[] rfl (by (try simp only [List.map_toArray, List.map_cons, List.map_nil]); first | done | rfl | (simp only [List.length_drop, List.length_take]; rfl)) ?_; (with_reducible refine (dragomanlaw23_alive.calls k  false _ A2.out).mono ?_); rintro e w44 ⟨rfl, hb⟩; refine ⟨_, rfl, ?_⟩; have n0_ := Aside0.mk (below_step (by repeat (first | (with_reducible first | exact HB.out | apply below_alloc | apply pw_below_drewN | apply below_drew1) | exact HB.out)) hb); clear HB; have HB := n0_; clear n0_; (try clear hb); (try clear hb2); (try clear hk); (try clear hi)))
    go_ret
    exact ⟨by first | rfl | (simp [errW_none, errW_some] <;> rfl) | (simp [*, errW_none, errW_some] <;> rfl), by repeat (first | (with_reducible first | exact HB.out | apply below_alloc | apply pw_below_drewN | apply below_drew1) | exact HB.out)⟩

end Go.Proofs.Ytpcjinapcmkbcaa.PNlriPuts
