/- Contracts of functions over the abstract machine. No conditions: lemmas alone. -/
import Derived.Test.YtbdejnnbpdgjlaaPeerXLibD
import Derived.Test.YtbdejnnbpdgjlaaPeerXP27
namespace Go.Proofs.Ytbdejnnbpdgjlaa.Ax
open Go Go.RowKit
set_option linter.unusedVariables false
set_option linter.unusedSimpArgs false
set_option maxRecDepth 100000
set_option maxHeartbeats 20000000
def scanE : List EV → Bool → Option Bool
 | [], up => some up
 | e :: es, up => if e.kind = 1 then (if up = true then none else scanE es true) else if e.kind = 2 then (if up = true ∧ e.msg.kind = 2 then scanE es up else none) else if e.kind = 3 then scanE es false else none
theorem scanE_app : ∀ (es fs : List EV) (up : Bool), scanE (es ++ fs) up = (scanE es up).bind (scanE fs)
 | [], fs, up => rfl
 | e :: es, fs, up => by
  simp only [List.cons_append, scanE]
  split
  ·split
   ·rfl
   ·exact scanE_app es fs true
  split
  ·split
   ·exact scanE_app es fs up
   ·rfl
  split
  ·exact scanE_app es fs false
  ·rfl
def Msgs (bs : List Int) : Prop := ∃ ms : List MV, bs = ms.flatMap (fun m => (putM m).1) ∧ ∀ m ∈ ms, (putM m).2 = 0 ∧ goodM m
theorem Msgs.nil : Msgs [] := ⟨[], rfl, by simp⟩
theorem Msgs.app {a b : List Int} (h : Msgs a) (k : Msgs b) : Msgs (a ++ b) := by
 obtain ⟨ms, rfl, h⟩ := h
 obtain ⟨ns, rfl, k⟩ := k
 exact ⟨ms ++ ns, by rw [List.flatMap_append], fun m hm => (List.mem_append.1 hm).elim (h m) (k m)⟩
theorem put_err1 {m : MV} (h : (putM m).2 ≠ 0) : (putM m).1 = [] := by
 unfold putM at *
 split
 ·rfl
 split
 ·rfl
 split
 ·rfl
 ·rename_i h1 h2 h3
  rw [if_neg h1, if_neg h2, if_neg h3] at h
  exact absurd rfl h
theorem Msgs.one {m : MV} (hg : goodM m) : Msgs (putM m).1 := by
 by_cases h : (putM m).2 = 0
 ·exact ⟨[m], by simp, by simpa using ⟨h, hg⟩⟩
 ·rw [put_err1 h]; exact Msgs.nil
structure Way (up0 : Bool) (s : ST) : Prop where
 conf : rightC s.p.conf
 state : 1 ≤ s.p.state ∧ s.p.state ≤ 4
 scan : scanE s.evs up0 = some (decide (s.p.state = 4))
 out : Msgs s.out
 buf : bytesL s.p.buf
 hold : 0 ≤ s.p.hold ∧ s.p.hold ≤ 65535
 heard : 0 ≤ s.p.heard ∧ s.p.heard < 65536
 said : 0 ≤ s.p.said ∧ s.p.said < 65536
theorem Way.say {up0 : Bool} {s : ST} (h : Way up0 s) {m : MV} (hg : goodM m) : Way up0 (sayP s m) := ⟨h.conf, h.state, h.scan, h.out.app (Msgs.one hg), h.buf, h.hold, h.heard, h.said⟩
theorem Way.quiet {up0 : Bool} {s : ST} (h : Way up0 s) : Way up0 (quietP s) := by
 refine ⟨h.conf, ⟨by show (1 : Int) ≤ 1; omega, by show (1 : Int) ≤ 4; omega⟩, ?_, h.out, (fun x hx => by cases hx), ⟨by show (0 : Int) ≤ 0; omega, by show (0 : Int) ≤ 65535; omega⟩, ⟨by show (0 : Int) ≤ 0; omega, by show (0 : Int) < 65536; omega⟩, ⟨by show (0 : Int) ≤ 0; omega, by show (0 : Int) < 65536; omega⟩⟩
 show scanE (s.evs ++ [⟨3, MV.zero⟩]) up0 = some (decide ((1 : Int) = 4))
 rw [scanE_app, h.scan]
 rfl
theorem Way.down {up0 : Bool} {s : ST} (h : Way up0 s) (a b : Int) : Way up0 (downP s a b) := (h.say (good_notice a b)).quiet
theorem Way.take {up0 : Bool} {s : ST} (h : Way up0 s) {m : MV} (hm : goodM m) (hr : rightM m) : Way up0 (takeS s m) := by
 unfold takeS
 split
 ·exact h.quiet
 split
 ·rename_i h3 hs
  split
  ·rename_i hk
   unfold openS
   split
   ·exact h.down 2 2
   split
   ·exact h.down 2 3
   ·refine Way.say (s := { s with p := { s.p with state := 3, hold := min s.p.conf.hold m.hold, heard := 0, said := 0, id := m.id } }) ⟨h.conf, ⟨by show (1 : Int) ≤ 3; omega, by show (3 : Int) ≤ 4; omega⟩, ?_, h.out, h.buf, ?_, ⟨by show (0 : Int) ≤ 0; omega, by show (0 : Int) < 65536; omega⟩, ⟨by show (0 : Int) ≤ 0; omega, by show (0 : Int) < 65536; omega⟩⟩ good_alive
    ·have := h.scan
     rw [hs] at this
     exact this
    ·show 0 ≤ min s.p.conf.hold m.hold ∧ min s.p.conf.hold m.hold ≤ 65535
     have h1 := h.conf.2.2.2
     unfold rightM at hr
     rw [if_pos hk] at hr
     have h2 := hr.2.2
     omega
  ·exact h.down 5 1
 split
 ·rename_i h3 h2 hs
  split
  ·refine ⟨h.conf, ⟨by show (1 : Int) ≤ 4; omega, by show (4 : Int) ≤ 4; omega⟩, ?_, h.out, h.buf, h.hold, ⟨by show (0 : Int) ≤ 0; omega, by show (0 : Int) < 65536; omega⟩, h.said⟩
   show scanE (s.evs ++ [⟨1, MV.zero⟩]) up0 = some (decide ((4 : Int) = 4))
   rw [scanE_app, h.scan, hs]
   rfl
  ·exact h.down 5 2
 split
 ·rename_i h3 h2 h1 hs
  split
  ·exact h.down 5 3
  ·refine ⟨h.conf, h.state, ?_, h.out, h.buf, h.hold, ⟨by show (0 : Int) ≤ 0; omega, by show (0 : Int) < 65536; omega⟩, h.said⟩
   show scanE (if m.kind = 2 then s.evs ++ [⟨2, m⟩] else s.evs) up0 = some (decide (s.p.state = 4))
   split
   ·rename_i hk
    rw [scanE_app, h.scan, hs]
    show scanE [⟨2, m⟩] true = some true
    simp only [scanE]
    rw [if_neg (by omega), if_pos trivial, if_pos ⟨trivial, hk⟩]
   ·exact h.scan
 ·exact h
theorem Way.feed {up0 : Bool} : ∀ (f : Nat) (s : ST), Way up0 s → s.p.buf.length < f → Way up0 (feedS f s) ∧ ((feedS f s).p.state = 1 ∨ (feedS f s).p.buf.length < 4096)
 | 0, _, _, h => absurd h (Nat.not_lt_zero _)
 | f + 1, s, h, hf => by
  rw [feedS]
  split
  ·rename_i h1; exact ⟨h, .inl h1⟩
  split
  ·exact ⟨h.down _ _, .inl rfl⟩
  split
  ·rename_i h1 h2 h3
   refine ⟨h, .inr ?_⟩
   rcases Nat.lt_or_ge s.p.buf.length 4096 with hl | hl
   ·exact hl
   ·exfalso
    have h2' : (readM s.p.buf).2.2 = (0, 0) := Classical.not_not.1 h2
    unfold readM at h3 h2'
    split at h3
    ·rename_i c1; rw [if_pos c1] at h2'; cases h2'
    rename_i c1
    rw [if_neg c1] at h2'
    rw [if_neg (by omega)] at h3 h2'
    split at h3
    ·rename_i c3; rw [if_pos c3] at h2'; exact c3 h2'
    rename_i c3
    rw [if_neg c3] at h2'
    have hN : pairAt s.p.buf 16 ≤ 4096 ∧ 19 ≤ pairAt s.p.buf 16 := by
     rcases headF_cases s.p.buf with h | h | h
     ·rw [h] at c3; exact absurd (by simp) c3
     ·rw [h] at c3; exact absurd (by simp) c3
     ·exact ⟨h.2.2.1, h.2.1⟩
    rw [if_neg (by omega)] at h3 h2'
    split at h3
    ·have : pairAt s.p.buf 16 = 0 := h3
     omega
    ·rename_i c5
     rw [if_neg c5] at h2'
     exact c5 h2'
  ·rename_i h1 h2 h3
   rcases readM_cases h.buf with e | ⟨m, e, g1, g2, g3, g4, g5, gr, gg⟩ | ⟨f', e, hne, _⟩
   ·rw [e] at h3; exact absurd rfl h3
   ·rw [e]
    have hd : (s.p.buf.drop (pairAt s.p.buf 16).toNat).length < f := by rw [List.length_drop]; omega
    have hw : Way up0 { s with p := { s.p with buf := s.p.buf.drop (pairAt s.p.buf 16).toNat } } := ⟨h.conf, h.state, h.scan, h.out, h.buf.drop _, h.hold, h.heard, h.said⟩
    refine Way.feed f _ (hw.take gg gr) ?_
    rcases take_buf { s with p := { s.p with buf := s.p.buf.drop (pairAt s.p.buf 16).toNat } } m with k | k
    ·show (takeS _ m).p.buf.length < f
     rw [k]; exact hd
    ·show (takeS _ m).p.buf.length < f
     rw [k]; show 0 < f; omega
   ·rw [e] at h2; exact absurd hne h2
theorem take_idle (s : ST) (m : MV) (h : s.p.state ≠ 1) (k : (takeS s m).p.state = 1) : (takeS s m).p.buf = [] := by
 unfold takeS at *
 split at k
 ·rename_i c; rw [if_pos c]; rfl
 rename_i c1
 rw [if_neg c1]
 split at k
 ·rename_i c2
  rw [if_pos c2]
  split at k
  ·rename_i c3
   rw [if_pos c3]
   unfold openS at *
   split at k
   ·rename_i c4; rw [if_pos c4]; rfl
   rename_i c4
   rw [if_neg c4]
   split at k
   ·rename_i c5; rw [if_pos c5]; rfl
   ·exact absurd (show (3 : Int) = 1 from k) (by omega)
  ·rename_i c3; rw [if_neg c3]; rfl
 rename_i c2
 rw [if_neg c2]
 split at k
 ·rename_i c3
  rw [if_pos c3]
  split at k
  ·exact absurd (show (4 : Int) = 1 from k) (by omega)
  ·rename_i c4; rw [if_neg c4]; rfl
 rename_i c3
 rw [if_neg c3]
 split at k
 ·rename_i c4
  rw [if_pos c4]
  split at k
  ·rename_i c5; rw [if_pos c5]; rfl
  ·exact absurd k h
 ·exact absurd k h
theorem feed_idle_all : ∀ (f : Nat) (s : ST), s.p.state ≠ 1 → (feedS f s).p.state = 1 → (feedS f s).p.buf = []
 | 0, s, h, k => absurd k h
 | f + 1, s, h, k => by
  rw [feedS, if_neg h] at k ⊢
  split at k
  ·rename_i c; rw [if_pos c]; rfl
  rename_i c
  rw [if_neg c]
  split at k
  ·exact absurd k h
  ·rename_i c2
   rw [if_neg c2]
   by_cases hs : (takeS { s with p := { s.p with buf := s.p.buf.drop (readM s.p.buf).2.1.toNat } } (readM s.p.buf).1).p.state = 1
   ·rw [feed_idle f _ hs]
    exact take_idle _ _ h hs
   ·exact feed_idle_all f _ hs k
theorem feed_idle_buf {f : Nat} {s : ST} (h : s.p.state ≠ 1) (k : (feedS f s).p.state = 1) : (feedS f s).p.buf = [] := feed_idle_all f s h k
structure OpV where
 kind : Int
 n : Int
 code : Int
 sub : Int
 b : List Int
def opS (p : PV) (o : OpV) : ST := if o.kind = 1 then startP p else if o.kind = 2 then feedP p o.b else if o.kind = 3 then tickP p o.n else if o.kind = 4 then stopP p o.code o.sub else stepOf p
structure Rest (p : PV) : Prop where
 way : Way (decide (p.state = 4)) (stepOf p)
 len : p.buf.length < 4096
 asn : u32 p.conf.asn
 id : u32 p.conf.id
theorem wrap_small {n : Int} (h : 0 ≤ n ∧ n ≤ 1000000) : wrapI n = n := by unfold wrapI; exact w_i64 (by omega) (by omega)
theorem Way.stepOf' {p : PV} (h : Rest p) {q : PV} (hc : q.conf = p.conf) (hs : q.state = p.state) (hb : q.buf = p.buf) (hh : q.hold = p.hold) (h1 : 0 ≤ q.heard ∧ q.heard < 65536) (h2 : 0 ≤ q.said ∧ q.said < 65536) : Way (decide (p.state = 4)) (stepOf q) :=
 ⟨by show rightC q.conf; rw [hc]; exact h.way.conf, by show 1 ≤ q.state ∧ q.state ≤ 4; rw [hs]; exact h.way.state, by show scanE [] _ = some (decide (q.state = 4)); rw [hs]; rfl, Msgs.nil, by show bytesL q.buf; rw [hb]; exact h.way.buf, by show 0 ≤ q.hold ∧ q.hold ≤ 65535; rw [hh]; exact h.way.hold, h1, h2⟩
theorem down_rest {up0 : Bool} {s : ST} (h : Way up0 s) (a b : Int) : Way up0 (downP s a b) ∧ (downP s a b).p.buf.length < 4096 ∧ (downP s a b).p.conf = s.p.conf := ⟨h.down a b, by show 0 < 4096; omega, rfl⟩
theorem tick_way {p : PV} (h : Rest p) (n : Int) : Way (decide (p.state = 4)) (tickP p n) ∧ (tickP p n).p.buf.length < 4096 ∧ (tickP p n).p.conf = p.conf := by
 have hH := h.way.heard
 have hS := h.way.said
 have hO := h.way.hold
 have hH' : 0 ≤ p.heard ∧ p.heard < 65536 := hH
 have hS' : 0 ≤ p.said ∧ p.said < 65536 := hS
 have hO' : 0 ≤ p.hold ∧ p.hold ≤ 65535 := hO
 unfold tickP
 split
 ·exact ⟨h.way, h.len, rfl⟩
 rename_i hn
 have hn1 : 1 ≤ n ∧ n ≤ 65536 := by
  constructor
  ·exact Classical.byContradiction fun e => hn (.inr (.inl (by omega)))
  ·exact Classical.byContradiction fun e => hn (.inr (.inr (by omega)))
 rw [wrap_small (n := p.heard + n) (by omega), wrap_small (n := p.said + n) (by omega)]
 have dn : ∀ (q : PV) (a b : Int), q.conf = p.conf → q.state = p.state → Way (decide (p.state = 4)) (downP (stepOf q) a b) ∧ (downP (stepOf q) a b).p.buf.length < 4096 ∧ (downP (stepOf q) a b).p.conf = p.conf := by
  intro q a b hc hs
  have e : downP (stepOf q) a b = downP (stepOf { p with heard := 0 }) a b := by
   show (⟨freshP q.conf 1, _, _⟩ : ST) = ⟨freshP p.conf 1, _, _⟩
   rw [hc]; rfl
  rw [e]
  exact down_rest (Way.stepOf' h (q := { p with heard := 0 }) rfl rfl rfl rfl ⟨by show (0 : Int) ≤ 0; omega, by show (0 : Int) < 65536; omega⟩ hS') a b
 split
 ·split
  ·exact dn { p with heard := p.heard + n } 4 0 rfl rfl
  ·rename_i h240
   exact ⟨Way.stepOf' h (q := { p with heard := p.heard + n }) rfl rfl rfl rfl ⟨by show 0 ≤ p.heard + n; omega, by show p.heard + n < 65536; omega⟩ hS', h.len, rfl⟩
 split
 ·exact ⟨h.way, h.len, rfl⟩
 split
 ·exact dn { p with heard := p.heard + n, said := p.said + n } 4 0 rfl rfl
 rename_i hlt
 split
 ·refine ⟨Way.say (Way.stepOf' h (q := { p with heard := p.heard + n, said := 0 }) rfl rfl rfl rfl ⟨by show 0 ≤ p.heard + n; omega, by show p.heard + n < 65536; omega⟩ ⟨by show (0 : Int) ≤ 0; omega, by show (0 : Int) < 65536; omega⟩) good_alive, h.len, rfl⟩
 ·rename_i hs
  have hd : p.hold.tdiv 3 = p.hold / 3 := Int.tdiv_eq_ediv_of_nonneg hO'.1
  rw [hd] at hs
  exact ⟨Way.stepOf' h (q := { p with heard := p.heard + n, said := p.said + n }) rfl rfl rfl rfl ⟨by show 0 ≤ p.heard + n; omega, by show p.heard + n < 65536; omega⟩ ⟨by show 0 ≤ p.said + n; omega, by show p.said + n < 65536; omega⟩, h.len, rfl⟩
theorem op_way {p : PV} (h : Rest p) (o : OpV) (hb : bytesL o.b) : Way (decide (p.state = 4)) (opS p o) ∧ Rest (opS p o).p := by
 have key : Way (decide (p.state = 4)) (opS p o) ∧ (opS p o).p.buf.length < 4096 ∧ (opS p o).p.conf = p.conf := by
  unfold opS
  split
  ·unfold startP
   split
   ·rename_i hc
    refine ⟨Way.say (s := stepOf (freshP p.conf 2)) ⟨hc.1, ⟨by show (1 : Int) ≤ 2; omega, by show (2 : Int) ≤ 4; omega⟩, ?_, Msgs.nil, (fun x hx => by cases hx), ⟨by show (0 : Int) ≤ 0; omega, by show (0 : Int) ≤ 65535; omega⟩, ⟨by show (0 : Int) ≤ 0; omega, by show (0 : Int) < 65536; omega⟩, ⟨by show (0 : Int) ≤ 0; omega, by show (0 : Int) < 65536; omega⟩⟩ (good_open h.asn h.id), by show 0 < 4096; omega, rfl⟩
    rw [hc.2]; rfl
   ·exact ⟨h.way, h.len, rfl⟩
  split
  ·unfold feedP
   split
   ·have hw : Way (decide (p.state = 4)) { stepOf p with p := { p with buf := p.buf ++ o.b } } := ⟨h.way.conf, h.way.state, h.way.scan, Msgs.nil, (fun x hx => by rcases List.mem_append.1 hx with k | k; exact h.way.buf x k; exact hb x k), h.way.hold, h.way.heard, h.way.said⟩
    obtain ⟨k1, k2⟩ := Way.feed ((p.buf ++ o.b).length + 1) _ hw (Nat.lt_succ_self _)
    refine ⟨k1, ?_, (feed_conf _ _).1⟩
    rcases k2 with k2 | k2
    ·rw [feed_idle_buf (by show p.state ≠ 1; rename_i hl; have := hl.2.1; omega) k2]; show 0 < 4096; omega
    ·exact k2
   ·exact ⟨h.way, h.len, rfl⟩
  split
  ·exact tick_way h o.n
  split
  ·unfold stopP
   split
   ·exact down_rest h.way o.code o.sub
   ·exact ⟨h.way, h.len, rfl⟩
  ·exact ⟨h.way, h.len, rfl⟩
 obtain ⟨k1, k2, k3⟩ := key
 refine ⟨k1, ⟨⟨k1.conf, k1.state, rfl, Msgs.nil, k1.buf, k1.hold, k1.heard, k1.said⟩, k2, by rw [k3]; exact h.asn, by rw [k3]; exact h.id⟩⟩
theorem put_small {m : MV} (h : (bodyB m).length ≤ 2) : (putM m).1.length ≤ 21 := by
 unfold putM
 split
 ·show 0 ≤ 21; omega
 split
 ·show 0 ≤ 21; omega
 split
 ·show 0 ≤ 21; omega
 ·show (List.replicate 16 (255 : Int) ++ twoB ((bodyB m).length + 19 : Nat) ++ m.kind :: bodyB m).length ≤ 21
  simp only [List.length_append, List.length_replicate, List.length_cons, twoB, List.length_nil]
  omega
theorem notice_len (a b : Int) : (putM (noticeM a b)).1.length ≤ 21 := put_small (by simp [bodyB, noticeM, MV.zero])
theorem alive_len : (putM aliveM).1.length ≤ 21 := put_small (by simp [bodyB, aliveM, MV.zero])
theorem down_out (s : ST) (a b : Int) : (downP s a b).out.length ≤ s.out.length + 21 := by
 show (s.out ++ (putM (noticeM a b)).1).length ≤ _
 have := notice_len a b
 rw [List.length_append]; omega
theorem down_evs (s : ST) (a b : Int) : (downP s a b).evs = s.evs ++ [⟨3, MV.zero⟩] := rfl
theorem take_ev (s : ST) (m : MV) : (takeS s m).evs = s.evs ∨ ∃ e : EV, (takeS s m).evs = s.evs ++ [e] ∧ (e.msg = m ∨ e.msg = MV.zero) := by
 unfold takeS
 split
 ·exact .inr ⟨_, rfl, .inr rfl⟩
 split
 ·split
  ·unfold openS
   split
   ·exact .inr ⟨_, rfl, .inr rfl⟩
   split
   ·exact .inr ⟨_, rfl, .inr rfl⟩
   ·exact .inl rfl
  ·exact .inr ⟨_, rfl, .inr rfl⟩
 split
 ·split
  ·exact .inr ⟨_, rfl, .inr rfl⟩
  ·exact .inr ⟨_, rfl, .inr rfl⟩
 split
 ·split
  ·exact .inr ⟨_, rfl, .inr rfl⟩
  ·split
   ·exact .inr ⟨_, rfl, .inl rfl⟩
   ·exact .inl rfl
 ·exact .inl rfl
theorem take_out (s : ST) (m : MV) : (takeS s m).out.length ≤ s.out.length + 21 := by
 unfold takeS
 split
 ·show s.out.length ≤ _; omega
 split
 ·split
  ·unfold openS
   split
   ·exact down_out s 2 2
   split
   ·exact down_out s 2 3
   ·show (s.out ++ (putM aliveM).1).length ≤ _
    have := alive_len
    rw [List.length_append]; omega
  ·exact down_out s 5 1
 split
 ·split
  ·show s.out.length ≤ _; omega
  ·exact down_out s 5 2
 split
 ·split
  ·exact down_out s 5 3
  ·show s.out.length ≤ _; omega
 ·omega
theorem take_state (s : ST) (m : MV) (h : 1 ≤ s.p.state ∧ s.p.state ≤ 4) : 1 ≤ (takeS s m).p.state ∧ (takeS s m).p.state ≤ 4 := by
 unfold takeS
 split
 ·exact ⟨by show (1 : Int) ≤ 1; omega, by show (1 : Int) ≤ 4; omega⟩
 split
 ·split
  ·unfold openS
   split
   ·exact ⟨by show (1 : Int) ≤ 1; omega, by show (1 : Int) ≤ 4; omega⟩
   split
   ·exact ⟨by show (1 : Int) ≤ 1; omega, by show (1 : Int) ≤ 4; omega⟩
   ·exact ⟨by show (1 : Int) ≤ 3; omega, by show (3 : Int) ≤ 4; omega⟩
  ·exact ⟨by show (1 : Int) ≤ 1; omega, by show (1 : Int) ≤ 4; omega⟩
 split
 ·split
  ·exact ⟨by show (1 : Int) ≤ 4; omega, by show (4 : Int) ≤ 4; omega⟩
  ·exact ⟨by show (1 : Int) ≤ 1; omega, by show (1 : Int) ≤ 4; omega⟩
 split
 ·split
  ·exact ⟨by show (1 : Int) ≤ 1; omega, by show (1 : Int) ≤ 4; omega⟩
  ·exact h
 ·exact h
theorem size_zero : sizeM MV.zero := by simp [sizeM, MV.zero, AV.zero]
theorem feed_size : ∀ (f : Nat) (s : ST), bytesL s.p.buf → s.p.buf.length ≤ 10000000 → s.p.buf.length < f → (∀ e ∈ s.evs, sizeM e.msg) →
  (∀ e ∈ (feedS f s).evs, sizeM e.msg) ∧ (feedS f s).evs.length ≤ s.evs.length + s.p.buf.length + 1 ∧ (feedS f s).out.length ≤ s.out.length + 21 * s.p.buf.length + 21 ∧ (feedS f s).p.buf.length ≤ s.p.buf.length ∧ bytesL (feedS f s).p.buf
 | 0, _, _, _, h, _ => absurd h (Nat.not_lt_zero _)
 | f + 1, s, hb, hl, hf, he => by
  have dn : ∀ a b : Int, (∀ e ∈ (downP s a b).evs, sizeM e.msg) ∧ (downP s a b).evs.length ≤ s.evs.length + s.p.buf.length + 1 ∧ (downP s a b).out.length ≤ s.out.length + 21 * s.p.buf.length + 21 ∧ (downP s a b).p.buf.length ≤ s.p.buf.length ∧ bytesL (downP s a b).p.buf := by
   intro a b
   refine ⟨?_, ?_, ?_, Nat.zero_le _, fun x hx => by cases hx⟩
   ·rw [down_evs]
    intro e h
    rcases List.mem_append.1 h with h | h
    ·exact he e h
    ·rw [List.mem_singleton] at h; subst h; exact size_zero
   ·rw [down_evs, List.length_append]; show _ + 1 ≤ _; omega
   ·have := down_out s a b; omega
  rw [feedS]
  split
  ·exact ⟨he, by omega, by omega, Nat.le_refl _, hb⟩
  split
  ·exact dn _ _
  split
  ·exact ⟨he, by omega, by omega, Nat.le_refl _, hb⟩
  ·rename_i h1 h2 h3
   have hsz := readM_size hb hl
   rcases readM_cases hb with e | ⟨m, e, g1, g2, g3, g4, g5, gr, gg⟩ | ⟨f', e, hne, _⟩
   ·rw [e] at h3; exact absurd rfl h3
   ·rw [e] at hsz ⊢
    obtain ⟨n, hn⟩ : ∃ n, n = (pairAt s.p.buf 16).toNat := ⟨_, rfl⟩
    have hn19 : 19 ≤ n := by omega
    have hnl : n ≤ s.p.buf.length := by omega
    show (∀ e ∈ (feedS f (takeS { s with p := { s.p with buf := s.p.buf.drop (pairAt s.p.buf 16).toNat } } m)).evs, sizeM e.msg) ∧ _
    rw [← hn]
    obtain ⟨s', hs'⟩ : ∃ s' : ST, s' = { s with p := { s.p with buf := s.p.buf.drop n } } := ⟨_, rfl⟩
    have hd : s'.p.buf.length = s.p.buf.length - n := by rw [hs']; exact List.length_drop
    have hsb : bytesL s'.p.buf := by rw [hs']; exact hb.drop _
    have hse : s'.evs = s.evs := by rw [hs']
    have hso : s'.out = s.out := by rw [hs']
    rw [← hs']
    have tb : (takeS s' m).p.buf.length ≤ s.p.buf.length - n ∧ bytesL (takeS s' m).p.buf := by
     rcases take_buf s' m with k | k
     ·rw [k]; exact ⟨by omega, hsb⟩
     ·rw [k]; exact ⟨Nat.zero_le _, fun x hx => by cases hx⟩
    have te : (∀ e ∈ (takeS s' m).evs, sizeM e.msg) ∧ (takeS s' m).evs.length ≤ s.evs.length + 1 := by
     rcases take_ev s' m with k | ⟨ev, k, hm⟩
     ·rw [k, hse]; exact ⟨he, by omega⟩
     ·rw [k, hse]
      refine ⟨fun x hx => ?_, by rw [List.length_append]; exact Nat.le_refl _⟩
      rcases List.mem_append.1 hx with hx | hx
      ·exact he x hx
      ·rw [List.mem_singleton] at hx; subst hx
       rcases hm with hm | hm
       ·rw [hm]; exact hsz
       ·rw [hm]; exact size_zero
    have to := take_out s' m
    rw [hso] at to
    show (∀ e ∈ (feedS f (takeS s' m)).evs, sizeM e.msg) ∧ (feedS f (takeS s' m)).evs.length ≤ s.evs.length + s.p.buf.length + 1 ∧ (feedS f (takeS s' m)).out.length ≤ s.out.length + 21 * s.p.buf.length + 21 ∧ (feedS f (takeS s' m)).p.buf.length ≤ s.p.buf.length ∧ bytesL (feedS f (takeS s' m)).p.buf
    obtain ⟨k1, k2, k3, k4, k5⟩ := feed_size f (takeS s' m) tb.2 (by omega) (by omega) te.1
    generalize feedS f (takeS s' m) = X at k1 k2 k3 k4 k5
    have hX : (∀ e ∈ X.evs, sizeM e.msg) ∧ X.evs.length ≤ s.evs.length + s.p.buf.length + 1 ∧ X.out.length ≤ s.out.length + 21 * s.p.buf.length + 21 ∧ X.p.buf.length ≤ s.p.buf.length ∧ bytesL X.p.buf := ⟨k1, by omega, by omega, by omega, k5⟩
    exact hX
   ·rw [e] at h2; exact absurd hne h2
theorem feedP_size {q : PV} {bs : List Int} (hb : bytesL q.buf) (hx : bytesL bs) (hl : q.buf.length + bs.length ≤ 10000000) :
  (∀ e ∈ (feedP q bs).evs, sizeM e.msg) ∧ (feedP q bs).evs.length ≤ q.buf.length + bs.length + 1 ∧ (feedP q bs).out.length ≤ 21 * (q.buf.length + bs.length) + 21 ∧ (feedP q bs).p.buf.length ≤ q.buf.length + bs.length ∧ bytesL (feedP q bs).p.buf := by
 by_cases h : liveP q
 ·have hbb : bytesL (q.buf ++ bs) := fun x h => (List.mem_append.1 h).elim (hb x) (hx x)
  have e : feedP q bs = feedS ((q.buf ++ bs).length + 1) { stepOf q with p := { q with buf := q.buf ++ bs } } := by unfold feedP; rw [if_pos h]
  have hz : (q.buf ++ bs).length = q.buf.length + bs.length := List.length_append
  obtain ⟨k1, k2, k3, k4, k5⟩ := feed_size ((q.buf ++ bs).length + 1) { stepOf q with p := { q with buf := q.buf ++ bs } } hbb (by show (q.buf ++ bs).length ≤ _; omega) (Nat.lt_succ_self _) (fun e h => by cases h)
  rw [← e] at k1 k2 k3 k4 k5
  have k2' : (feedP q bs).evs.length ≤ 0 + (q.buf ++ bs).length + 1 := k2
  have k3' : (feedP q bs).out.length ≤ 0 + 21 * (q.buf ++ bs).length + 21 := k3
  have k4' : (feedP q bs).p.buf.length ≤ (q.buf ++ bs).length := k4
  exact ⟨k1, by omega, by omega, by omega, k5⟩
 ·have e : feedP q bs = stepOf q := by unfold feedP; rw [if_neg h]
  rw [e]
  refine And.intro (fun x hx' => absurd (show x ∈ ([] : List EV) from hx') (by simp)) ?_
  exact ⟨Nat.zero_le _, Nat.zero_le _, Nat.le_add_right _ _, hb⟩
end Go.Proofs.Ytbdejnnbpdgjlaa.Ax
