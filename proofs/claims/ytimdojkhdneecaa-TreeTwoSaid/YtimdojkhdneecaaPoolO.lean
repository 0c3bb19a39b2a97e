/- Frames and what they are used for: what the methods answer, as functions of the pool's state. -/
import Derived.Test.YtimdojkhdneecaaPoolN
namespace Go.Proofs.Ytimdojkhdneecaa.Pool
open Go.RowKit Go.Proofs.Ytimdojkhdneecaa.Hp Go.Proofs.Ytimdojkhdneecaa.Runs
set_option linter.unusedVariables false
set_option linter.unusedSimpArgs false
/-- a pool's state: each frame's use, each section's zone, which are isolated -/
structure PS where
  U : Nat → Int
  Z : Nat → Int
  I : Nat → Bool
def PS.new : PS := ⟨fun _ => 0, fun _ => 0, fun _ => false⟩
def PS.onE (S : PS) (s z : Int) : Int := if (0 ≤ s ∧ s < 32) ∧ (z = 2 ∨ z = 3) then (if S.Z s.toNat = 0 then 0 else 3) else 1
def PS.online (S : PS) (s z : Int) (bad : List Int) : PS := if S.onE s z = 0 then ⟨onU S.U (s.toNat * 32) bad 32, upd S.Z s.toNat z, updB S.I s.toNat false⟩ else S
def PS.idle (S : PS) (s : Nat) : Prop := cnt S.U 1 (s * 32) 32 + cnt S.U 6 (s * 32) 32 = 32
instance (S : PS) (s : Nat) : Decidable (S.idle s) := by unfold PS.idle; infer_instance
def PS.offE (S : PS) (s : Int) : Int := if 0 ≤ s ∧ s < 32 then (if S.Z s.toNat = 0 then 2 else if S.idle s.toNat then 0 else 5) else 1
def PS.offline (S : PS) (s : Int) : PS := if S.offE s = 0 then ⟨offU S.U (s.toNat * 32) 32, upd S.Z s.toNat 0, updB S.I s.toNat false⟩ else S
def PS.use (S : PS) (f : Int) : Int := useD S.U f
def PS.zone (S : PS) (s : Int) : Int := zoneD S.Z s
def PS.freeB (S : PS) (f : Int) : Bool := decide (2 ≤ S.use f ∧ S.use f ≤ 5)
def PS.free (S : PS) (f : Int) : PS := if S.freeB f then { S with U := upd S.U f.toNat 1 } else S
def PS.spoilB (S : PS) (f : Int) : Bool := decide ((0 ≤ f ∧ f < 1024) ∧ S.U f.toNat ≠ 6)
def PS.spoil (S : PS) (f : Int) : PS := if S.spoilB f then { S with U := upd S.U f.toNat 6 } else S
def PS.isoB (S : PS) (s : Int) : Bool := decide (S.zone s ≠ 0)
def PS.iso (S : PS) (s : Int) (on : Bool) : PS := if S.isoB s then { S with I := updB S.I s.toNat on } else S
def goodB (S : PS) (z : Int) (s f : Nat) : Bool := decide (f % s = 0 ∧ f + s ≤ 1024 ∧ S.Z (f / 32) = z ∧ S.I (f / 32) = false) && (List.range s).all (fun k => S.U (f + k) == 1)
theorem goodB_iff (S : PS) (z : Int) (s f : Nat) : goodB S z s f = true ↔ Good S.U S.Z S.I z s f := by
  unfold goodB Good
  rw [Bool.and_eq_true, decide_eq_true_iff, List.all_eq_true]
  constructor
  · rintro ⟨⟨h1, h2, h3, h4⟩, h5⟩
    exact ⟨h1, h2, h3, h4, fun k hk => by simpa using h5 k (by simpa using hk)⟩
  · rintro ⟨h1, h2, h3, h4, h5⟩
    exact ⟨⟨h1, h2, h3, h4⟩, fun k hk => by simpa using h5 k (by simpa using hk)⟩
def PS.first (S : PS) (z : Int) (s : Nat) : Option Nat := (List.range 1024).find? (goodB S z s)
theorem find_range (q : Nat → Bool) (n f : Nat) (hf : f < n) (h1 : q f = true) (h2 : ∀ g, g < f → q g = false) : (List.range n).find? q = some f := by
  induction n with
  | zero => omega
  | succ n ih =>
    rw [List.range_succ, List.find?_append]
    by_cases c : f < n
    · rw [ih c]; rfl
    · obtain rfl : f = n := by omega
      have : (List.range f).find? q = none := by
        rw [List.find?_eq_none]
        intro g hg
        rw [h2 g (by simpa using hg)]
        simp
      rw [this]
      simp [h1]
theorem find_none' (q : Nat → Bool) (n : Nat) (h2 : ∀ g, g < n → q g = false) : (List.range n).find? q = none := by
  rw [List.find?_eq_none]
  intro g hg
  rw [h2 g (by simpa using hg)]
  simp
theorem first_some (S : PS) (z : Int) (s f : Nat) (hs : 1 ≤ s) (h : FirstG S.U S.Z S.I z s f) : S.first z s = some f := by
  refine find_range _ _ _ (by have := h.1.2.1; omega) ((goodB_iff S z s f).mpr h.1) (fun g hg => ?_)
  rw [Bool.eq_false_iff]
  exact fun e => h.2 g hg ((goodB_iff S z s g).mp e)
theorem first_none (S : PS) (z : Int) (s : Nat) (h : NoneG S.U S.Z S.I z s) : S.first z s = none :=
  find_none' _ _ fun g _ => by rw [Bool.eq_false_iff]; exact fun e => h g ((goodB_iff S z s g).mp e)
theorem first_of_some {S : PS} {z : Int} {s f : Nat} (h : S.first z s = some f) : FirstG S.U S.Z S.I z s f := by
  have h1 := List.find?_some h
  refine ⟨(goodB_iff S z s f).mp h1, fun g hg hG => ?_⟩
  have hb := (goodB_iff S z s g).mpr hG
  -- the first one is no later
  by_cases hs : 1 ≤ s
  · have hfg : ∃ g', g' ≤ g ∧ FirstG S.U S.Z S.I z s g' := by
      have hG' := hG
      clear hb hG h h1
      induction g using Nat.strongRecOn with
      | ind g ih =>
        by_cases c : ∃ g', g' < g ∧ Good S.U S.Z S.I z s g'
        · obtain ⟨g', h1, h2⟩ := c
          obtain ⟨g2, h3, h4⟩ := ih g' h1 (by omega) h2
          exact ⟨g2, by omega, h4⟩
        · exact ⟨g, Nat.le_refl _, hG', fun g' h1 h2 => c ⟨g', h1, h2⟩⟩
    obtain ⟨g', h2, h3⟩ := hfg
    have := first_some S z s g' hs h3
    rw [h] at this
    have := Option.some.inj this
    omega
  · obtain rfl : s = 0 := by omega
    have := hG.1
    have h2 := ((goodB_iff S z 0 f).mp h1).1
    rw [Nat.mod_zero] at this h2
    omega
theorem first_of_none {S : PS} {z : Int} {s : Nat} (hs : 1 ≤ s) (h : S.first z s = none) : NoneG S.U S.Z S.I z s := by
  intro g hG
  unfold PS.first at h
  rw [List.find?_eq_none] at h
  exact h g (by have := hG.2.1; simp; omega) ((goodB_iff S z s g).mpr hG)
def PS.pick (S : PS) (o : Int) (mov : Bool) : Option Nat := match (if mov then S.first 3 (2 ^ o.toNat) else none) with | some f => some f | none => S.first 2 (2 ^ o.toNat)
instance (u o : Int) : Decidable (ArgOk u o) := by unfold ArgOk; infer_instance
def PS.allocE (S : PS) (u o : Int) (mov : Bool) : Int := if ArgOk u o then (match S.pick o mov with | some _ => 0 | none => 4) else 1
def PS.allocF (S : PS) (u o : Int) (mov : Bool) : Nat := if ArgOk u o then (S.pick o mov).getD 0 else 0
def PS.alloc (S : PS) (u o : Int) (mov : Bool) : PS := if S.allocE u o mov = 0 then { S with U := allocU S.U (S.allocF u o mov) (2 ^ o.toNat) u } else S
theorem pick_of (S : PS) (o : Int) (mov : Bool) (f : Nat) (ok : Bool) (h : AllocSpec S.U S.Z S.I (2 ^ o.toNat) mov f ok) : S.pick o mov = (if ok then some f else none) ∧ (ok = false → f = 0) := by
  have hs : 1 ≤ 2 ^ o.toNat := Nat.two_pow_pos _
  rcases h with ⟨rfl, h⟩ | ⟨rfl, rfl, h1, h2⟩
  · refine ⟨?_, fun h => by cases h⟩
    unfold PS.pick
    rcases h with ⟨rfl, h⟩ | ⟨h1, h2⟩
    · rw [if_pos rfl, first_some S 3 _ f hs h]; rfl
    · cases mov with
      | false => rw [if_neg (by decide)]; exact first_some S 2 _ f hs h2
      | true => rw [if_pos rfl, first_none S 3 _ (h1 rfl)]; exact first_some S 2 _ f hs h2
  · refine ⟨?_, fun _ => rfl⟩
    unfold PS.pick
    cases mov with
    | false => rw [if_neg (by decide)]; exact first_none S 2 _ h2
    | true => rw [if_pos rfl, first_none S 3 _ (h1 rfl)]; exact first_none S 2 _ h2
/-- A pool that a call made, and what memory is besides. -/
structure PL (w0 w : World) (p b bi : Nat) (S : PS) : Prop where
  at_ : PoolAt w p b bi S.U S.Z S.I
  ch : Chg NoB w0 w
  lp : w0.heap.size ≤ p
  lb : w0.heap.size ≤ b
  li : w0.heap.size ≤ bi
theorem PL.go {w0 w w' : World} {p b bi : Nat} {S S' : PS} (h : PL w0 w p b bi S) (h1 : PoolAt w' p b bi S'.U S'.Z S'.I) (h2 : Chg (fun i => i = p ∨ i = bi) w w') : PL w0 w' p b bi S' :=
  ⟨h1, h.ch.trans h2 (fun i hi hh => by have := h.lp; have := h.li; omega), h.lp, h.lb, h.li⟩
theorem PL.keep {w0 w w' : World} {p b bi : Nat} {S : PS} (h : PL w0 w p b bi S) (h2 : Chg NoB w w') : PL w0 w' p b bi S :=
  ⟨h.at_.chg h2 (fun x => x) (fun x => x) (fun x => x), h.ch.trans h2 (fun i hi hh => hh), h.lp, h.lb, h.li⟩
/-- what a call answers, and the pool's state behind it -/
def Ans (w0 : World) (p b bi : Nat) (v : Value) (S : PS) (e : Ending) (w' : World) : Prop := e = .returned v ∧ PL w0 w' p b bi S
def NewAns (w0 : World) (e : Ending) (w' : World) : Prop := ∃ p b bi, e = .returned (.pointer (some ⟨p, 0, none⟩)) ∧ PL w0 w' p b bi PS.new
theorem l_new (w0 : World) : Calls Try.prog 19 #[] w0 (NewAns w0) := by
  refine (pnew_any w0).mono ?_
  rintro e w1 ⟨p, b, bi, rfl, h1, h2, h3, h4, h5⟩
  exact ⟨p, b, bi, rfl, ⟨h1, h5, h2, h3, h4⟩⟩
section
variable {w0 w : World} {p b bi : Nat} {S : PS}
theorem l_use (f : Int) (h : PL w0 w p b bi S) : Calls Try.prog 18 #[.pointer (some ⟨p, 0, none⟩), .int .i64 f] w fun e w' => e = .returned (.int .i64 (S.use f)) ∧ w = w' := use_any p b bi _ _ _ _ f w h.at_
theorem l_online (s z : Int) (A : Option Addr) (c : Nat) (bad : List Int) (h : PL w0 w p b bi S) (hF : Rd w .i64 A bad) (ho : 0 < bad.length → Off A (fun i => i = p ∨ i = bi)) :
    Calls Try.prog 23 #[.pointer (some ⟨p, 0, none⟩), .int .i64 s, .int .i64 z, .slice A bad.length c] w (Ans w0 p b bi (.int .i64 (S.onE s z)) (S.online s z bad)) := by
  refine (online_any p b bi S.U S.Z S.I s z A c bad w h.at_ hF ho).mono ?_
  intro e w1 hp
  rcases hp with ⟨g, rfl, rfl⟩ | ⟨g, hz, rfl, rfl⟩ | ⟨g, hz, rfl, h1, h2⟩
  · have E : S.onE s z = 1 := if_neg g
    refine ⟨by rw [E], ?_⟩
    unfold PS.online; rw [E, if_neg (by decide)]; exact h
  · have E : S.onE s z = 3 := by unfold PS.onE; rw [if_pos g, if_neg hz]
    refine ⟨by rw [E], ?_⟩
    unfold PS.online; rw [E, if_neg (by decide)]; exact h
  · have E : S.onE s z = 0 := by unfold PS.onE; rw [if_pos g, if_pos hz]
    refine ⟨by rw [E], ?_⟩
    unfold PS.online; rw [E, if_pos rfl]; exact h.go h1 h2
theorem l_free (f : Int) (h : PL w0 w p b bi S) :
    Calls Try.prog 42 #[.pointer (some ⟨p, 0, none⟩), .int .i64 f] w (Ans w0 p b bi (.bool (S.freeB f)) (S.free f)) := by
  refine (free_any p b bi S.U S.Z S.I _ f w h.at_).mono ?_
  intro e w1 hp
  rcases hp with ⟨g, rfl, rfl⟩ | ⟨g, rfl, h1, h2⟩
  · have E : S.freeB f = false := decide_eq_false g
    refine ⟨by rw [E], ?_⟩
    unfold PS.free; rw [E, if_neg (by decide)]; exact h
  · have E : S.freeB f = true := decide_eq_true g
    refine ⟨by rw [E], ?_⟩
    unfold PS.free; rw [E, if_pos rfl]
    have hf : f.toNat < 1024 := by
      by_cases x : 0 ≤ f ∧ f < 1024
      · omega
      · have := g.1; rw [show useD S.U f = 0 from if_neg x] at this; omega
    refine h.go ?_ h2
    have hs := freeL_set S.U f.toNat 1 hf
    rw [if_pos rfl] at hs
    rw [hs] at h1
    exact h1
theorem l_spoil (f : Int) (h : PL w0 w p b bi S) :
    Calls Try.prog 22 #[.pointer (some ⟨p, 0, none⟩), .int .i64 f] w (Ans w0 p b bi (.bool (S.spoilB f)) (S.spoil f)) := by
  refine (spoil_any p b bi S.U S.Z S.I _ f w h.at_).mono ?_
  intro e w1 hp
  rcases hp with ⟨g, rfl, rfl⟩ | ⟨g, rfl, h1, h2⟩
  · have E : S.spoilB f = false := decide_eq_false g
    refine ⟨by rw [E], ?_⟩
    unfold PS.spoil; rw [E, if_neg (by decide)]; exact h
  · have E : S.spoilB f = true := decide_eq_true g
    refine ⟨by rw [E], ?_⟩
    unfold PS.spoil; rw [E, if_pos rfl]
    have hf : f.toNat < 1024 := by omega
    refine h.go ?_ h2
    have hs := freeL_set S.U f.toNat 6 hf
    rw [if_neg (by decide)] at hs
    rw [hs] at h1
    exact h1
theorem l_alloc (u o : Int) (mov : Bool) (h : PL w0 w p b bi S) :
    Calls Try.prog 47 #[.pointer (some ⟨p, 0, none⟩), .int .i64 u, .int .i64 o, .bool mov] w (Ans w0 p b bi (.tuple #[.int .i64 (S.allocF u o mov), .int .i64 (S.allocE u o mov)]) (S.alloc u o mov)) := by
  refine (alloc_any p b bi S.U S.Z S.I u o mov w h.at_).mono ?_
  intro e w1 hp
  rcases hp with ⟨g, rfl, rfl⟩ | ⟨g, f, ok, hs, rfl, h1, h2⟩
  · have E : S.allocE u o mov = 1 := if_neg g
    have F : S.allocF u o mov = 0 := if_neg g
    refine ⟨by rw [E, F]; rfl, ?_⟩
    unfold PS.alloc; rw [E, if_neg (by decide)]; exact h
  · obtain ⟨hp, hz⟩ := pick_of S o mov f ok hs
    have E : S.allocE u o mov = if ok then 0 else 4 := by
      unfold PS.allocE; rw [if_pos g, hp]
      cases ok <;> rfl
    have F : S.allocF u o mov = f := by
      unfold PS.allocF; rw [if_pos g, hp]
      cases ok with
      | false => exact (hz rfl).symm
      | true => rfl
    refine ⟨by rw [E, F], ?_⟩
    unfold PS.alloc
    rw [E, F]
    cases ok with
    | false =>
      rw [if_neg (by decide)]
      rw [if_neg (by decide), allocU_zero] at h1
      exact h.go h1 h2
    | true =>
      rw [if_pos rfl]
      rw [if_pos rfl] at h1
      exact h.go h1 h2
/-- how many frames of a section have a use -/
def PS.count (S : PS) (s u : Int) : Nat := if 0 ≤ s ∧ s < 32 then cnt S.U u (s.toNat * 32) 32 else 0
theorem l_count (s u : Int) (h : PL w0 w p b bi S) :
    Calls Try.prog 39 #[.pointer (some ⟨p, 0, none⟩), .int .i64 s, .int .i64 u] w fun e w' => e = .returned (.int .i64 (S.count s u)) ∧ w = w' := by
  by_cases g : 0 ≤ s ∧ s < 32
  · obtain ⟨a, rfl⟩ := Int.eq_ofNat_of_zero_le g.1
    have := count_in p b bi S.U S.Z S.I _ a (by have := g.2; omega) u w h.at_
    unfold PS.count
    rw [if_pos g]
    exact this
  · unfold PS.count
    rw [if_neg g]
    exact count_out _ s u (by omega) w
end
end Go.Proofs.Ytimdojkhdneecaa.Pool
