/- TreeTwo: two trees over one pool. -/
import Derived.Test.YtimdojkhdneecaaTreeAf
namespace Go.Proofs.Ytimdojkhdneecaa.Tree
open Go.RowKit Go.Proofs.Ytimdojkhdneecaa.Hp Go.Proofs.Ytimdojkhdneecaa.Ram Go.Proofs.Ytimdojkhdneecaa.Word Go.Proofs.Ytimdojkhdneecaa.WordP Go.Proofs.Ytimdojkhdneecaa.Pool
set_option linter.unusedVariables false
set_option linter.unusedSimpArgs false
def reM (s : TS) (B : Nat → Nat → Int) : TS := ⟨s.T, fun f n => if n < 8 then numM B f n else s.M f n, s.E, s.own⟩
theorem numM_same {B B' : Nat → Nat → Int} {f : Nat} (h : ∀ j, B' f j = B f j) (n : Nat) : numM B' f n = numM B f n := by
  have e : B' f = B f := funext h
  unfold numM rdL
  rw [e]
section
variable {w0 w w' : World} {pm bl p b bi t : Nat} {S S' : PS} {B B' : Nat → Nat → Int} {root : Nat} {ov : Value} {s : TS} {L : Nat → Ent} {X : Nat → Prop}
theorem reM_at (hfit : Fit B s) {f : Nat} (h : ∀ j, B' f j = B f j) {n : Nat} (hn : n < 8) : (reM s B').M f n = s.M f n := by
  show (if n < 8 then numM B' f n else s.M f n) = _
  rw [if_pos hn, numM_same h, hfit f n hn]
theorem reM_ok {ek ep : Nat} (h : TOk s ek ep) (hfit : Fit B s) (hb : ∀ f, f ∈ s.own → ∀ j, B' f j = B f j) : TOk (reM s B') ek ep := by
  refine ⟨h.root, h.lvl, fun k q f hk hf n hn => ?_, h.par, fun q f hf n hn => ?_, h.no, h.inj, h.mem, h.nodup, fun k q f hf => ?_⟩
  · have hf' : s.T k q = some f := hf
    rw [reM_at hfit (hb f ((h.mem f).mpr ⟨k, q, hf'⟩)) hn]
    exact h.kid k q f hk hf' n hn
  · have hf' : s.T 3 q = some f := hf
    rw [reM_at hfit (hb f ((h.mem f).mpr ⟨3, q, hf'⟩)) hn]
    exact h.leaf q f hf' n hn
  · have hf' : s.T (k + 1) q = some f := hf
    rcases h.full k q f hf' with x | ⟨n, hn, hx⟩
    · exact .inl x
    · exact .inr ⟨n, hn, by rw [reM_at hfit (hb f ((h.mem f).mpr ⟨k + 1, q, hf'⟩)) hn]; exact hx⟩
/-- a tree stands while others do what they do -/
theorem Lw.other (h : Lw w0 w pm bl p b bi t S B root ov s L) (hpl : PL w0 w' p b bi S') (hrm : RRam w' pm bl 1024 B' (fun _ => false)) (hby : ByteB B') (hc : Chg X w w') (hx : ¬ X t) (hx2 : ∀ g, ov.ownBlock = some g → ¬ X g)
    (hu : ∀ f, f ∈ s.own → S'.U f = 2 ∧ ∀ j, B' f j = B f j) (hz : ZI S' s.own) : Lw w0 w' pm bl p b bi t S' B' root ov (reM s B') L := by
  refine ⟨⟨⟨hpl, hrm, hc.blk (show Blk w t _ _ from h.ti.tl.st) hx, Own.own_chg h.ti.tl.row hc (fun g hg => hx2 g hg), hby, h.ti.tl.lo, h.ti.tl.n1, h.ti.tl.n2⟩, reM_ok h.ti.ok h.ti.fit (fun f hf => (hu f hf).2), h.ti.rt, fun f n hn => ?_, fun f hf => ⟨(h.ti.use f hf).1, (hu f hf).1⟩⟩, hz, h.ok, h.en⟩
  show (if n < 8 then numM B' f n else s.M f n) = _
  rw [if_pos hn]
end
/-- two trees over one pool, an array beside each -/
def TwSt (w : World) (pm bl p b bi t u g h : Nat) (L1 A1 L2 A2 : Nat → Ent) (wr : World) : Prop :=
  ∃ (S : PS) (B : Nat → Nat → Int) (r1 r2 : Nat) (o1 o2 : Value) (s1 s2 : TS), Lw w wr pm bl p b bi t S B r1 o1 s1 L1 ∧ Lw w wr pm bl p b bi u S B r2 o2 s2 L2 ∧ EArr wr g A1 ∧ EArr wr h A2 ∧ (∀ f, f ∈ s1.own → f ∉ s2.own) ∧ (∀ i, o1.ownBlock = some i → o2.ownBlock ≠ some i)
/-- what lies apart -/
def TwAp (w : World) (p bi bl t u g h : Nat) : Prop := (Apart w p bi bl t g ∧ Apart w p bi bl u g) ∧ (Apart w p bi bl t h ∧ Apart w p bi bl u h) ∧ t ≠ u ∧ g ≠ h
section
variable {w wr w' : World} {pm bl p b bi t u g h : Nat} {L1 A1 L2 A2 A : Nat → Ent}
theorem TwAp.swap (a : TwAp w p bi bl t u g h) : TwAp w p bi bl u t h g := by
  obtain ⟨⟨a1, a2⟩, ⟨a3, a4⟩, a5, a6⟩ := a
  exact ⟨⟨a4, a3⟩, ⟨a2, a1⟩, a5.symm, a6.symm⟩
theorem TwSt.swap (h0 : TwSt w pm bl p b bi t u g h L1 A1 L2 A2 wr) : TwSt w pm bl p b bi u t h g L2 A2 L1 A1 wr := by
  obtain ⟨S, B, r1, r2, o1, o2, s1, s2, h1, h2, h3, h4, h5, h6⟩ := h0
  exact ⟨S, B, r2, r1, o2, o1, s2, s1, h2, h1, h4, h3, fun f hf hf' => h5 f hf' hf, fun i hi hi' => h6 i hi' hi⟩
theorem TwSt.keep (h0 : TwSt w pm bl p b bi t u g h L1 A1 L2 A2 wr) (hc : Chg NoB wr w') : TwSt w pm bl p b bi t u g h L1 A1 L2 A2 w' := by
  obtain ⟨S, B, r1, r2, o1, o2, s1, s2, h1, h2, h3, h4, h5, h6⟩ := h0
  exact ⟨S, B, r1, r2, o1, o2, s1, s2, h1.keep hc, h2.keep hc, h3.chg hc (fun x => x), h4.chg hc (fun x => x), h5, h6⟩
theorem TwSt.ch (h0 : TwSt w pm bl p b bi t u g h L1 A1 L2 A2 wr) : Chg NoB w wr := by
  obtain ⟨S, B, r1, r2, o1, o2, s1, s2, h1, _⟩ := h0
  exact h1.ti.tl.pl.ch
theorem TwSt.arr (h0 : TwSt w pm bl p b bi t u g h L1 A1 L2 A2 wr) (ha : TwAp w p bi bl t u g h) (hc : Chg (· = g) wr w') (hE : EArr w' g A) : TwSt w pm bl p b bi t u g h L1 A L2 A2 w' := by
  obtain ⟨S, B, r1, r2, o1, o2, s1, s2, h1, h2, h3, h4, h5, h6⟩ := h0
  exact ⟨S, B, r1, r2, o1, o2, s1, s2, h1.arr h3 ha.1.1 hc, h2.arr h3 ha.1.2 hc, hE, h4.chg hc (fun x => ha.2.2.2 x.symm), h5, h6⟩
theorem TwSt.get (h0 : TwSt w pm bl p b bi t u g h L1 A1 L2 A2 wr) (pg : Nat) (hpg : pg < 4096) : Calls Try.prog 14 #[.pointer (some ⟨t, 0, none⟩), .int .i64 (pg : Int)] wr (fun e w' => e = .returned (.tuple #[eV (L1 pg), .int .i64 0]) ∧ Chg NoB wr w') := by
  obtain ⟨S, B, r1, r2, o1, o2, s1, s2, h1, _⟩ := h0
  exact lget_any pg hpg h1
/-- what Set does -/
def TwSet (w : World) (pm bl p b bi t u g h : Nat) (L1 A1 L2 A2 : Nat → Ent) (pg : Int) (x : Ent) (e : Ending) (w' : World) : Prop :=
  ∃ (E : Int) (L' : Nat → Ent), e = .returned (.int .i64 E) ∧ TwSt w pm bl p b bi t u g h L' A1 L2 A2 w' ∧ ((E = 0 ∧ (0 ≤ pg ∧ pg < 4096) ∧ L' = updL L1 pg.toNat x) ∨ (E ≠ 0 ∧ L' = L1))
theorem own_not {t : Nat} {pm p root : Nat} {ov : Value} {n : Nat} {xs : List Value} (hb : TBlk wr t pm p root ov) {v : Value} (hr : wr.ownsRow w.heap.size 3 1 v n xs) : v.ownBlock ≠ some t := fun x => by
  obtain ⟨C, hC⟩ := (Own.own_ge hr t x).2
  have h1 : Blk wr t _ _ := hb
  have := hC.symm.trans h1
  simp at this
theorem TwSt.set (h0 : TwSt w pm bl p b bi t u g h L1 A1 L2 A2 wr) (ha : TwAp w p bi bl t u g h) (pg : Int) (x : Ent) : Calls Try.prog 10 #[.pointer (some ⟨t, 0, none⟩), .int .i64 pg, eV x] wr (TwSet w pm bl p b bi t u g h L1 A1 L2 A2 pg x) := by
  obtain ⟨S, B, r1, r2, o1, o2, s1, s2, h1, h2, h3, h4, h5, h6⟩ := h0
  refine (lset_any pg x h1).mono ?_
  rintro e w' ⟨E, S', B', s', ov', L', rfl, hL, hmv, hch, hob, hs⟩
  have k1 : ∀ f, f ∈ s2.own → f ∉ s'.own := fun f hf hf' => by
    by_cases c : f ∈ s1.own
    · exact h5 f c hf
    · have := (hmv.new f hf' c).2
      have := (h2.ti.use f hf).2
      omega
  have k2 : ∀ f, f ∈ s2.own → S'.U f = 2 ∧ ∀ j, B' f j = B f j := fun f hf => by
    have c : f ∉ s1.own := fun c => h5 f c hf
    have e2 := (h2.ti.use f hf).2
    exact ⟨by rw [hmv.oth f c (k1 f hf)]; exact e2, hmv.byt f c (by rw [e2]; decide)⟩
  have k3 : ZI S' s2.own := fun f hf => by
    rw [hmv.z, hmv.i]
    rcases hf with ⟨f0, f1 | f1⟩
    · have c' : f ∉ s'.own := fun c' => by have := (hL.ti.use f c').2; omega
      by_cases c : f ∈ s1.own
      · exact h1.zi f ⟨f0, .inr c⟩
      · exact h1.zi f ⟨f0, .inl (by rw [← hmv.oth f c c']; exact f1)⟩
    · exact h2.zi f ⟨f0, .inr f1⟩
  obtain ⟨q1, q2, q3, q4, q5, q6, q7, q8, q9, q10, q11⟩ := h2.ti.tl.n1
  have k4 : ¬ TX p bi bl t o1 u := by
    rintro (y | y | y | y | y)
    · exact q7 y
    · exact q8 y
    · exact q11 y
    · exact ha.2.2.1 y.symm
    · exact own_not h2.ti.tl.st h1.ti.tl.row y
  have k5 : ∀ i, o2.ownBlock = some i → ¬ TX p bi bl t o1 i := fun i hi => by
    obtain ⟨z1, z2, z3, z4, z5, z6⟩ := h2.ti.tl.n2 i hi
    rintro (y | y | y | y | y)
    · exact z1 y
    · exact z2 y
    · exact z5 y
    · rw [y] at hi; exact own_not h1.ti.tl.st h2.ti.tl.row hi
    · exact h6 i y hi
  have h2' := h2.other hL.ti.tl.pl hL.ti.tl.rm hL.ti.tl.by_ hch k4 k5 k2 k3
  have k6 : ∀ i, ov'.ownBlock = some i → o2.ownBlock ≠ some i := fun i hi hi' => by
    rcases hob i hi with y | y
    · exact h6 i y hi'
    · have := h2.ti.lts i (.inr (.inr (.inr (.inr hi'))))
      omega
  refine ⟨E, L', rfl, ⟨S', B', _, _, ov', o2, s', _, hL, h2', h3.chg hch (h3.off h1.ti.tl ha.1.1), h4.chg hch (h4.off h1.ti.tl ha.2.1.1), fun f hf hf' => k1 f hf' hf, k6⟩, ?_⟩
  rcases hs with ⟨_, e1, e2⟩ | ⟨hr, ⟨_, e1, e2⟩ | ⟨_, ⟨e1, e2⟩ | ⟨e1, e2, _⟩⟩⟩
  · exact .inr ⟨by rw [e1]; decide, e2⟩
  · exact .inr ⟨by rw [e1]; decide, e2⟩
  · exact .inl ⟨e1, hr, e2⟩
  · exact .inr ⟨by rw [e1]; decide, e2⟩
end
/-- a second tree -/
def NewTwo (w0 w : World) (pm bl p b bi t : Nat) (e : Ending) (w' : World) : Prop :=
  ∃ (u : Nat) (S : PS) (B : Nat → Nat → Int) (r1 r2 : Nat) (o1 o2 : Value) (s1 s2 : TS), e = .returned (.tuple #[.pointer (some ⟨u, 0, none⟩), .int .i64 0]) ∧ Lw w0 w' pm bl p b bi t S B r1 o1 s1 (fun _ => noE) ∧ Lw w0 w' pm bl p b bi u S B r2 o2 s2 (fun _ => noE) ∧ (∀ f, f ∈ s1.own → f ∉ s2.own) ∧ (∀ i, o1.ownBlock = some i → o2.ownBlock ≠ some i) ∧ t ≠ u
theorem new_two {w0 w : World} {pm bl p b bi t root : Nat} {S : PS} {B : Nat → Nat → Int} {ov : Value} {s : TS} (h : Lw w0 w pm bl p b bi t S B root ov s (fun _ => noE)) (hfree : ∃ g, g < 1024 ∧ S.U g = 1) :
    Calls Try.prog 9 #[.pointer (some ⟨pm, 0, none⟩), .pointer (some ⟨p, 0, none⟩)] w (NewTwo w0 w pm bl p b bi t) := by
  obtain ⟨q1, q2, q3, q4, q5, q6, q7, q8, q9, q10, q11⟩ := h.ti.tl.n1
  refine (tnew_any h.ti.tl.pl h.ti.tl.rm h.ti.tl.by_ ⟨h.ti.tl.lo.1, h.ti.tl.lo.2.1⟩ ⟨q1, q2, q3, q4, q5, q6⟩).mono ?_
  rintro e w' ⟨hC, ⟨u, f, ov', hf, hu, ht, rfl, hT, hob⟩ | ⟨rfl, _, _, hno⟩⟩
  · have hz0 : ZI S [] := fun g hg => by
      rcases hg with ⟨g0, g1 | g1⟩
      · exact h.zi g ⟨g0, .inl g1⟩
      · cases g1
    obtain ⟨m1, _⟩ := lw_new hf hu hz0 hT
    have hne : ∀ g, g ∈ s.own → g ≠ f := fun g hg e => by
      have := (h.ti.use g hg).2
      rw [e] at this
      omega
    have k4 : ¬ (t = p ∨ t = bi ∨ t = bl) := by
      rintro (y | y | y)
      · exact q7 y
      · exact q8 y
      · exact q11 y
    have h1 := h.other (X := fun i => i = p ∨ i = bi ∨ i = bl) hT.pl hT.rm hT.by_ hC k4 (fun i hi => by
      obtain ⟨z1, z2, z3, z4, z5, z6⟩ := h.ti.tl.n2 i hi
      rintro (y | y | y)
      · exact z1 y
      · exact z2 y
      · exact z5 y) (fun g hg => ⟨by show (if g = f then (2 : Int) else S.U g) = 2; rw [if_neg (hne g hg)]; exact (h.ti.use g hg).2, fun j => by
        unfold Ram.upd
        exact if_neg (fun x => hne g hg x.1)⟩) (fun g hg => by
      rcases hg with ⟨g0, g1 | g1⟩
      · have g2 : (if g = f then (2 : Int) else S.U g) = 1 := g1
        by_cases c : g = f
        · rw [if_pos c] at g2; cases g2
        · rw [if_neg c] at g2; exact h.zi g ⟨g0, .inl g2⟩
      · exact h.zi g ⟨g0, .inr g1⟩)
    refine ⟨u, _, _, root, f, ov, ov', _, _, rfl, h1, m1, fun g hg hg' => ?_, fun i hi hi' => ?_, fun x => ?_⟩
    · have : g = f := by simpa [newTS] using hg'
      exact hne g hg this
    · have l1 := hob i hi'
      have l2 := h.ti.lts i (.inr (.inr (.inr (.inr hi))))
      omega
    · have l2 := h.ti.lts t (.inr (.inr (.inr (.inl rfl))))
      omega
  · obtain ⟨g, g0, g1⟩ := hfree
    obtain ⟨g2, g3⟩ := h.zi g ⟨g0, .inl g1⟩
    exact absurd g1 (hno g g0 g2 g3)
section
variable {w wr : World} {pm bl p b bi t u g h : Nat} {L1 A1 L2 A2 : Nat → Ent}
theorem TwSt.at1 (h0 : TwSt w pm bl p b bi t u g h L1 A1 L2 A2 wr) : EArr wr g A1 := by
  obtain ⟨_, _, _, _, _, _, _, _, _, _, h3, _⟩ := h0
  exact h3
theorem TwSt.store (h0 : TwSt w pm bl p b bi t u g h L1 A1 L2 A2 wr) (ha : TwAp w p bi bl t u g h) {P : Nat} (hP : P < 4096) (x : Ent) :
    TwSt w pm bl p b bi t u g h L1 (updL A1 P x) L2 A2 (((wr.setCell ⟨g, P * 3, none⟩ (.int .i64 x.1)).setCell ⟨g, P * 3 + 1, none⟩ (.int .i64 x.2.1)).setCell ⟨g, P * 3 + 2, none⟩ (.bool x.2.2)) := by
  obtain ⟨m1, m2⟩ := h0.at1.set hP x
  exact h0.arr ha m2 m1
end
def TwRel (w : World) (pm bl p b bi t u g h n : Nat) (i : Value) (wr : World) : Prop := ∃ (k : Nat) (L1 L2 : Nat → Ent), k ≤ n ∧ i = .int .i64 (k : Int) ∧ TwSt w pm bl p b bi t u g h L1 L1 L2 L2 wr
def TwGet (w : World) (pm bl p b bi t u g h : Nat) (L1 L2 : Nat → Ent) (i : Value) (wr : World) : Prop := ∃ q : Nat, q ≤ 4096 ∧ i = .int .i64 (q : Int) ∧ TwSt w pm bl p b bi t u g h L1 L1 L2 L2 wr
end Go.Proofs.Ytimdojkhdneecaa.Tree
