/- Frames and what they are used for: Count elsewhere, Alloc on no pool. -/
import Derived.Test.YtimdojkhdneecaaPoolE
namespace Go.Proofs.Ytimdojkhdneecaa.Pool
open Go.RowKit Go.Proofs.Ytimdojkhdneecaa.Hp Go.Proofs.Ytimdojkhdneecaa.Runs
set_option linter.unusedVariables false
set_option linter.unusedSimpArgs false
theorem alloc_nil (u o : Int) (m : Bool) (w : World) : Calls Try.prog 47 #[.pointer none, .int .i64 u, .int .i64 o, .bool m] w fun e w' => e = .returned (.tuple #[.int .i64 0, .int .i64 1]) ∧ w = w' := by
  go_enter Try.func47, Try.ntmps47
  go_wp2_with fail
  go_ret2
  exact ⟨rfl, rfl⟩
theorem count_out (P : Option Addr) (s u : Int) (hs : s < 0 ∨ 32 ≤ s) (w : World) : Calls Try.prog 39 #[.pointer P, .int .i64 s, .int .i64 u] w fun e w' => e = .returned (.int .i64 0) ∧ w = w' := by
  go_enter Try.func39, Try.ntmps39
  go_wp2_with fail
  refine (frames_out s hs _).mono ?_
  rintro e w1 ⟨rfl, rfl⟩
  clear hs
  go_wp2_with fail
  go_loop [7, 10] (fun n f => n = .int .i64 0 ∧ f = .int .i64 0) (fun n f => 0)
  case atStart => exact ⟨rfl, rfl⟩
  case round =>
    obtain ⟨rfl, rfl⟩ := hrel
    go_wp2_with fail
    go_ret
    exact ⟨rfl, rfl⟩
theorem count_nil_in (s : Nat) (u : Int) (hs : s < 32) (w : World) : Calls Try.prog 39 #[.pointer none, .int .i64 s, .int .i64 u] w fun e w' => e = .returned (.int .i64 0) ∧ w = w' := by
  go_enter Try.func39, Try.ntmps39
  go_wp2_with fail
  refine (frames_in s hs _).mono ?_
  rintro e w1 ⟨rfl, rfl⟩
  rw [show ((s : Int) * 32) = ((s * 32 : Nat) : Int) from by omega, show (((s : Int) + 1) * 32) = ((s * 32 + 32 : Nat) : Int) from by omega]
  have ha : s * 32 + 32 ≤ 1024 := by omega
  generalize s * 32 = a at *
  go_wp2_with fail
  go_loop [7, 10] (fun n f => n = .int .i64 0 ∧ ∃ k : Nat, k ≤ 32 ∧ f = .int .i64 ((a + k : Nat) : Int)) (fun n f => ((a : Int) + 32 - intOf f).toNat)
  case atStart => exact ⟨rfl, 0, by omega, rfl⟩
  case round =>
    obtain ⟨rfl, k, hk, rfl⟩ := hrel
    by_cases hlt : k < 32
    · go_wp2_with fail
      exact ⟨⟨rfl, k + 1, by omega, rfl⟩, by simp [intOf]; omega⟩
    · obtain rfl : k = 32 := by omega
      go_wp2_with fail
      go_ret
      exact ⟨rfl, rfl⟩
end Go.Proofs.Ytimdojkhdneecaa.Pool
