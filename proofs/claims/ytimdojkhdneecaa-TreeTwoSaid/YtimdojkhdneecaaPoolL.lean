/- Frames and what they are used for: Offline. -/
import Derived.Test.YtimdojkhdneecaaPoolK
namespace Go.Proofs.Ytimdojkhdneecaa.Pool
open Go.RowKit Go.Proofs.Ytimdojkhdneecaa.Hp Go.Proofs.Ytimdojkhdneecaa.Runs
set_option linter.unusedVariables false
set_option linter.unusedSimpArgs false
/-- the uses when the first k frames from a on have gone off line -/
def offU (U : Nat → Int) (a k : Nat) : Nat → Int := fun f => if (a ≤ f ∧ f < a + k) ∧ U f ≠ 6 then 0 else U f
theorem offU_zero (U : Nat → Int) (a : Nat) : offU U a 0 = U := by
  funext f; unfold offU; rw [if_neg (by omega)]
theorem offU_at (U : Nat → Int) (a : Nat) (k : Nat) : offU U a k (a + k) = U (a + k) := by
  unfold offU; rw [if_neg (by omega)]
theorem offU_bad (U : Nat → Int) (a k : Nat) (h : U (a + k) = 6) : offU U a k = offU U a (k + 1) := by
  funext f
  unfold offU
  by_cases e : f = a + k
  · subst e; rw [if_neg (fun x => x.2 h), if_neg (fun x => x.2 h)]
  · by_cases c : (a ≤ f ∧ f < a + k) ∧ U f ≠ 6
    · have c' : (a ≤ f ∧ f < a + (k + 1)) ∧ U f ≠ 6 := ⟨⟨c.1.1, by omega⟩, c.2⟩
      rw [if_pos c, if_pos c']
    · have c' : ¬ ((a ≤ f ∧ f < a + (k + 1)) ∧ U f ≠ 6) := fun x => c ⟨⟨x.1.1, by omega⟩, x.2⟩
      rw [if_neg c, if_neg c']
theorem offU_succ (U : Nat → Int) (a k : Nat) (h : U (a + k) ≠ 6) : upd (offU U a k) (a + k) 0 = offU U a (k + 1) := by
  funext f
  unfold upd offU
  by_cases e : f = a + k
  · subst e; rw [if_pos rfl, if_pos ⟨⟨by omega, by omega⟩, h⟩]
  · rw [if_neg e]
    by_cases c : (a ≤ f ∧ f < a + k) ∧ U f ≠ 6
    · have c' : (a ≤ f ∧ f < a + (k + 1)) ∧ U f ≠ 6 := ⟨⟨c.1.1, by omega⟩, c.2⟩
      rw [if_pos c, if_pos c']
    · have c' : ¬ ((a ≤ f ∧ f < a + (k + 1)) ∧ U f ≠ 6) := fun x => c ⟨⟨x.1.1, by omega⟩, x.2⟩
      rw [if_neg c, if_neg c']
def OffPost (w : World) (p b bi : Nat) (U Z : Nat → Int) (I : Nat → Bool) (s : Int) (e : Ending) (w' : World) : Prop :=
  (¬ (0 ≤ s ∧ s < 32) ∧ e = .returned (.int .i64 1) ∧ w = w') ∨
  ((0 ≤ s ∧ s < 32) ∧ Z s.toNat = 0 ∧ e = .returned (.int .i64 2) ∧ w = w') ∨
  ((0 ≤ s ∧ s < 32) ∧ Z s.toNat ≠ 0 ∧ cnt U 1 (s.toNat * 32) 32 + cnt U 6 (s.toNat * 32) 32 ≠ 32 ∧ e = .returned (.int .i64 5) ∧ w = w') ∨
  ((0 ≤ s ∧ s < 32) ∧ Z s.toNat ≠ 0 ∧ cnt U 1 (s.toNat * 32) 32 + cnt U 6 (s.toNat * 32) 32 = 32 ∧ e = .returned (.int .i64 0) ∧ PoolAt w' p b bi (offU U (s.toNat * 32) 32) (upd Z s.toNat 0) (updB I s.toNat false) ∧ Chg (fun i => i = p ∨ i = bi) w w')
def OffRel (w : World) (p b bi : Nat) (U Z : Nat → Int) (I : Nat → Bool) (a : Nat) (i : Value) (wr : World) : Prop :=
  ∃ k : Nat, k ≤ 32 ∧ i = .int .i64 ((a + k : Nat) : Int) ∧ PoolAt wr p b bi (offU U a k) Z I ∧ Chg (fun i => i = p ∨ i = bi) w wr
end Go.Proofs.Ytimdojkhdneecaa.Pool
