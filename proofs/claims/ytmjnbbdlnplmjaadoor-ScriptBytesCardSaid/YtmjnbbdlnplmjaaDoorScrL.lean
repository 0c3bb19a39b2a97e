/- Chapter 25: ScriptBytes, in the words of its row. -/
import Derived.Test.YtmjnbbdlnplmjaaDoorScrK
namespace Go.Proofs.YtmjnbbdlnplmjaaDoor.Scr
open Go.RowKit
open Hp (Chg Blk NoB blt Rd IsRow rd_of_row)
set_option linter.unusedVariables false
theorem u8_of_wf {n : Int} (h : (Lit.int .u8 n).wf = true) : 0 ≤ n ∧ n < 256 := by
  have e1 : IntKind.u8.min = 0 := rfl
  have e2 : IntKind.u8.max = 255 := rfl
  simp [Lit.wf, e1, e2] at h
  omega
theorem i32_of_wf {n : Int} (h : (Lit.int .i32 n).wf = true) : -2147483648 ≤ n ∧ n ≤ 2147483647 := by
  have e1 : IntKind.i32.min = -2147483648 := rfl
  have e2 : IntKind.i32.max = 2147483647 := rfl
  simp [Lit.wf, e1, e2] at h
  omega
theorem scriptBytes_row (a0 : Option Addr) (len0 cap0 : Nat) (z0 : List Int) (a1 : Option Addr) (len1 cap1 : Nat) (z1 : List Int) (a2 : Bool) (W : World) (w0 : IsRow .u8 W a0 len0 cap0 z0) (y0 : len0 * 1 ≤ 140737488351232) (w1 : IsRow .i32 W a1 len1 cap1 z1) (y1 : len1 * 4 ≤ 140737488351232) (hG : Glo W) :
    Calls Tryd.prog 4 #[.slice a0 len0 cap0, .slice a1 len1 cap1, .bool a2] W fun e W' => e = .returned (.bool true) ∧ Below W.heap.size W W' := by
  obtain ⟨r0, l0, -, f0⟩ := rd_of_row w0 (by omega)
  obtain ⟨r1, l1, -, f1⟩ := rd_of_row w1 (by omega)
  have h := bytes_law W hG a0 a1 cap0 cap1 _ _ r0 (fun z hz => u8_of_wf (f0 z hz)) r1 (fun z hz => i32_of_wf (f1 z hz)) a2
  rw [l0, l1] at h
  exact h.mono fun e W' ⟨he, hc⟩ => ⟨he, hc.below (Nat.le_refl _) (fun i hi => hi.elim)⟩
end Go.Proofs.YtmjnbbdlnplmjaaDoor.Scr
