/- Chapter 7: RegistryNone. -/
import Derived.Test.YtolojkfpokmdkaaRRRegK
namespace Go.Proofs.YtolojkfpokmdkaaRR.Reg
open Go.RowKit Go.Proofs.YtolojkfpokmdkaaRR.Hp Go.Proofs.YtolojkfpokmdkaaRR.By Go.Proofs.YtolojkfpokmdkaaRR.Disk Go.Proofs.YtolojkfpokmdkaaRR.Word Go.Proofs.YtolojkfpokmdkaaRR.WordP Go.Proofs.YtolojkfpokmdkaaRR.Log Go.Proofs.YtolojkfpokmdkaaRR.Slot Go.Proofs.YtolojkfpokmdkaaRR.Jour
set_option linter.unusedVariables false
set_option linter.unusedSimpArgs false
set_option maxRecDepth 100000 in
set_option maxHeartbeats 4000000 in
theorem registryNone (n : Int) (w : World) : Calls Try.prog 3 #[.int .i64 n] w (True1 w) := by
  have h1 := fun w => open_nil w
  have h2 := fun A w => addbad_nil A 1 1 w
  have h3 := fun w => setst_nil n n w
  have h4 := fun w => bad_nil w
  have h5 := fun w => stat_nil n w
  go_enter Try.func3, Try.ntmps3
  go_wp2_with fail
  refine (h1 _).mono ?_
  rintro e w1 ⟨rfl, rfl⟩
  go_wp2_with (first | ((with_reducible refine (answers_any _).mono ?_); rintro e w2 ⟨rfl, hC2⟩) | ((with_reducible refine (h2 _ _).mono ?_); rintro e w3 ⟨rfl, hC3⟩) | ((with_reducible refine (h3 _).mono ?_); rintro e w4 ⟨rfl, rfl⟩) | ((with_reducible refine (h4 _).mono ?_); rintro e w5 ⟨rfl, rfl⟩) | ((with_reducible refine (h5 _).mono ?_); rintro e w6 ⟨rfl, rfl⟩))
  go_ret
  exact ⟨rfl, (hC2.alloc _).trans hC3 (fun _ _ x => x)⟩
theorem registryNone_row (n : Int) (W : World) (hn : (Lit.int IntKind.i64 n).wf = true) : Calls Try.prog 3 #[.int .i64 n] W fun e w' => e = .returned (.bool true) ∧ Below W.heap.size W w' :=
  (registryNone n W).mono fun _ _ h => h.row
end Go.Proofs.YtolojkfpokmdkaaRR.Reg
