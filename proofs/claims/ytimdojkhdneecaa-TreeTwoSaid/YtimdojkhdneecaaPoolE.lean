/- Frames and what they are used for: Count, Isolate. -/
import Derived.Test.YtimdojkhdneecaaPoolD
namespace Go.Proofs.Ytimdojkhdneecaa.Pool
open Go.RowKit Go.Proofs.Ytimdojkhdneecaa.Hp Go.Proofs.Ytimdojkhdneecaa.Runs
set_option linter.unusedVariables false
set_option linter.unusedSimpArgs false
/-- how many of k frames from a on have a use -/
def cnt (U : Nat → Int) (u : Int) (a : Nat) : Nat → Nat
  | 0 => 0
  | k + 1 => cnt U u a k + (if U (a + k) == u then 1 else 0)
theorem cnt_le (U : Nat → Int) (u : Int) (a k : Nat) : cnt U u a k ≤ k := by
  induction k with
  | zero => exact Nat.le_refl _
  | succ k ih => unfold cnt; split <;> omega
def CntRel (U : Nat → Int) (u : Int) (a : Nat) (n f : Value) : Prop := ∃ k : Nat, k ≤ 32 ∧ f = .int .i64 ((a + k : Nat) : Int) ∧ n = .int .i64 (cnt U u a k)
set_option maxHeartbeats 2000000 in
theorem count_in (p b bi : Nat) (U Z : Nat → Int) (I : Nat → Bool) (L : List Int) (s : Nat) (hs : s < 32) (u : Int) (w : World) (h : RPool w p b bi U Z I L) :
    Calls Try.prog 39 #[.pointer (some ⟨p, 0, none⟩), .int .i64 s, .int .i64 u] w fun e w' => e = .returned (.int .i64 (cnt U u (s * 32) 32)) ∧ w = w' := by
  go_enter Try.func39, Try.ntmps39
  go_wp2_with fail
  refine (frames_in s hs _).mono ?_
  rintro e w1 ⟨rfl, rfl⟩
  rw [show ((s : Int) * 32) = ((s * 32 : Nat) : Int) from by omega, show (((s : Int) + 1) * 32) = ((s * 32 + 32 : Nat) : Int) from by omega]
  have ha : s * 32 + 32 ≤ 1024 := by omega
  generalize hae : s * 32 = a at *
  have HAE := Lib.hid hae
  clear hae
  go_wp2_with fail
  go_loop [7, 10] (fun n f => CntRel U u a n f) (fun n f => ((a : Int) + 32 - intOf f).toNat)
  case atStart => exact ⟨0, by omega, rfl, rfl⟩
  case round =>
    obtain ⟨k, hk, rfl, rfl⟩ := hrel
    by_cases hlt : k < 32
    · have hc := h.use (a + k) (by omega)
      have hn : cnt U u a (k + 1) = cnt U u a k + (if U (a + k) == u then 1 else 0) := rfl
      have hl := cnt_le U u a k
      by_cases e : (U (a + k) == u) = true
      · rw [if_pos e] at hn
        have HN := Lib.hid hn
        clear hn
        generalize U (a + k) = x at *
        generalize cnt U u a k = n at *
        go_wp2_with fail
        exact ⟨⟨k + 1, by omega, rfl, by rw [HN.out]; rfl⟩, by simp [intOf]; omega⟩
      · have e' : (U (a + k) == u) = false := Bool.eq_false_iff.mpr e
        rw [if_neg e] at hn
        have HN := Lib.hid hn
        clear hn e
        generalize U (a + k) = x at *
        generalize cnt U u a k = n at *
        go_wp2_with fail
        exact ⟨⟨k + 1, by omega, rfl, by rw [HN.out]; rfl⟩, by simp [intOf]; omega⟩
    · obtain rfl : k = 32 := by omega
      go_wp2_with fail
      go_ret
      exact ⟨by rw [HAE.out]; rfl, rfl⟩
end Go.Proofs.Ytimdojkhdneecaa.Pool
