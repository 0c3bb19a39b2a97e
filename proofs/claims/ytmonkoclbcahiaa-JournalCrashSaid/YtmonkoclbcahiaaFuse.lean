/- A disk: Fuse. -/
import Derived.Test.YtmonkoclbcahiaaFlush
namespace Go.Proofs.Ytmonkoclbcahiaa.Disk
open Go.RowKit Go.Proofs.Ytmonkoclbcahiaa.Hp Go.Proofs.Ytmonkoclbcahiaa.By
set_option linter.unusedVariables false
set_option linter.unusedSimpArgs false
def DSt.fusing (s : DSt) (a : Int) : DSt := { s with num := { s.num with fuse := if a < 0 then 0 else a } }
def FusePost (w : World) (d : Nat) (ρ : Nat → Nat) (s : DSt) (a : Int) (e : Ending) (w' : World) : Prop := e = .returned (.tuple #[]) ∧ DiskAt w' d ρ (s.fusing a) ∧ Chg (Own ρ) w w'
theorem fuse_any (d : Nat) (ρ : Nat → Nat) (s : DSt) (a : Int) (w : World) (ha : a ≤ 9223372036854775807) (h : DiskAt w d ρ s) : Calls Try.prog 27 #[.pointer (some ⟨d, 0, none⟩), .int .i64 a] w (FusePost w d ρ s a) := by
  obtain ⟨sv, mb, cap, SV, SB, LV, LB, h⟩ := h
  obtain ⟨k0, k1, k2, k3, k4, k5⟩ := six h.b
  have hf := bfroz h.b
  have fin : ∀ x, x = (if a < 0 then 0 else a) → FusePost w d ρ s a (.returned (.tuple #[])) (w.setCell ⟨d, 4, none⟩ (.int .i64 x)) := by
    intro x hx
    refine ⟨rfl, ?_, (chg1 _ _ _ _).mono (fun i _ hh => by rw [show i = d from hh]; show ρ d ≠ 0; rw [h.r1]; decide)⟩
    have b1 : DB (w.setCell ⟨d, 4, none⟩ (.int .i64 x)) d (.slice (some ⟨sv, 0, none⟩) s.n cap) (.map (some mb)) { s.num with fuse := x } := bset h.b 4 _
    have hok := h.ok
    unfold DN.ok at hok
    have := h.nums { s.num with fuse := x } ⟨hok.1, hok.2.1, by simp only; split at hx <;> omega⟩ b1 (chg1 _ _ _ _)
    rw [hx] at this
    rw [hx]
    exact ⟨_, _, _, _, _, _, _, this⟩
  have FI := Lib.hid fin
  clear fin h k0 k1 k2 k3 k5
  by_cases c1 : a < 0
  all_goals
    go_enter Try.func27, Try.ntmps27
    go_wp2_with fail
    go_end0
    exact FI.out _ (by split <;> omega)
theorem fuse_nil (a : Int) (w : World) : Calls Try.prog 27 #[.pointer none, .int .i64 a] w fun e w' => e = .returned (.tuple #[]) ∧ w = w' := by
  go_enter Try.func27, Try.ntmps27
  go_wp2_with fail
  go_end0
  exact ⟨rfl, rfl⟩
set_option maxRecDepth 100000 in
theorem crash_nil (a b : Int) (w : World) : Calls Try.prog 28 #[.pointer none, .int .u64 a, .int .i64 b] w fun e w' => e = .returned (.tuple #[]) ∧ w = w' := by
  go_enter Try.func28, Try.ntmps28
  go_wp2_with fail
  refine bodyPost_ret (results_none rfl _ _ _) rfl ?_
  exact ⟨rfl, rfl⟩
end Go.Proofs.Ytmonkoclbcahiaa.Disk
