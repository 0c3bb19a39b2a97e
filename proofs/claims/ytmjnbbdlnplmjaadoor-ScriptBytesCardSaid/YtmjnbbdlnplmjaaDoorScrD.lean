/- Chapter 25: a word of two hexadecimal digits as a number (strconv.ParseUint at base 16). -/
import Derived.Test.YtmjnbbdlnplmjaaDoorScrC
import Derived.Lib.ConvBytes
import Derived.Lib.Hide
import Derived.Laws.Strings3
import Derived.Laws.Closers25
import Derived.Laws.Closers25b
import Derived.WalkKit
import Derived.BigCall
import Derived.BigGuard
namespace Go.Proofs.YtmjnbbdlnplmjaaDoor.Scr
open Go.RowKit
open Hp (Chg Blk NoB blt Rd)
set_option linter.unusedVariables false
set_option linter.unusedSimpArgs false
theorem lower_any (c : Int) (w : World) : Calls Tryd.prog 81 #[.int .u8 c] w fun e w' => e = .returned (.int .u8 (bits .or .u8 c 32)) ∧ w' = w := by
  go_enter Tryd.func81, Tryd.ntmps81
  go_wp2
  go_ret
  exact ⟨rfl, rfl⟩
theorem low_letter (d : Nat) (h0 : 10 ≤ d) (h1 : d < 16) : bits .or .u8 (87 + (d : Int)) 32 = 87 + (d : Int) := by
  have : d = 10 ∨ d = 11 ∨ d = 12 ∨ d = 13 ∨ d = 14 ∨ d = 15 := by omega
  rcases this with rfl | rfl | rfl | rfl | rfl | rfl <;> decide
theorem lower_letter (d : Nat) (h0 : 10 ≤ d) (h1 : d < 16) (w : World) : Calls Tryd.prog 81 #[.int .u8 (87 + (d : Int))] w fun e w' => e = .returned (.int .u8 (87 + (d : Int))) ∧ w' = w := by
  have := lower_any (87 + (d : Int)) w
  rwa [low_letter d h0 h1] at this
theorem hexd_nat (d : Nat) (h : d < 16) : ((ScP.hexd d).toNat : Int) = if d < 10 then 48 + (d : Int) else 87 + (d : Int) := by
  have key : ∀ d : Fin 16, ((ScP.hexd d.1).toNat : Int) = if d.1 < 10 then 48 + (d.1 : Int) else 87 + (d.1 : Int) := by decide
  exact key ⟨d, h⟩
def dig2 (x y k : Nat) : Nat := if k = 0 then x else y
def val2 (x y k : Nat) : Nat := if k = 0 then 0 else if k = 1 then x else x * 16 + y
set_option maxHeartbeats 32000000 in
set_option maxRecDepth 100000 in
theorem hexbyte_in (x y : Nat) (hx : x < 16) (hy : y < 16) (w : World) :
    Calls Tryd.prog 64 #[.string (ba [ScP.hexd x, ScP.hexd y]), .int .i64 16, .int .i64 8] w fun e w' => e = .returned (.tuple #[.int .u64 ((x * 16 + y : Nat) : Int), .nilIface]) ∧ Chg NoB w w' := by
  obtain ⟨t, ht⟩ : ∃ t, t = ba [ScP.hexd x, ScP.hexd y] := ⟨_, rfl⟩
  have hts : t.size = 2 := by rw [ht]; rfl
  have hemp : t.toList.isEmpty = false := by
    rw [← decide_eq_emptyBytes]
    exact decide_eq_false (fun h => by rw [h] at hts; exact absurd hts (by decide))
  have hcv := Lib.run_convert_string_bytes (P := Tryd.prog) w 9 32 5 t (u := .string) Tryd.underlying9 Tryd.underlying32 Tryd.underlying5
  have hB : ∀ j, j < 2 → (Lib.bytesWorld w 5 t).cell? ⟨w.heap.size, j, none⟩ = some (.int .u8 (if dig2 x y j < 10 then 48 + (dig2 x y j : Int) else 87 + (dig2 x y j : Int))) := fun j hj => by
    rw [Lib.bytesWorld_cell w 5 t j (by omega), ← hexd_nat _ (by unfold dig2; split <;> assumption)]
    have : j = 0 ∨ j = 1 := by omega
    rcases this with rfl | rfl <;> rw [ht] <;> rfl
  have hCh : Chg NoB w (Lib.bytesWorld w 5 t) := chg_bytesWorld w _ t
  rw [← ht]
  clear ht
  rw [hts] at hcv
  obtain ⟨W1, hW1⟩ : ∃ W1, W1 = Lib.bytesWorld w 5 t := ⟨_, rfl⟩
  rw [← hW1] at hcv hB hCh
  clear hW1
  go_enter Tryd.func64, Tryd.ntmps64
  go_wp2
  go_loop [12, 13, 101] (fun vu vn vi => ∃ (k : Nat) (a : Int), vu = .bool false ∧ vn = .int .u64 a ∧ vi = .int .i64 k ∧ k ≤ 2 ∧ Hid (a = (val2 x y k : Int)))
    (fun _ _ vi => 2 - (intOf vi).toNat)
  case atStart => exact ⟨0, 0, rfl, rfl, rfl, by omega, rfl⟩
  case round =>
    obtain ⟨k, a, rfl, rfl, rfl, hk, hh⟩ := hrel
    by_cases hkn : k < 2
    · have hc := hB k hkn
      have hd : dig2 x y k < 16 := by unfold dig2; split <;> assumption
      have ha0 : 0 ≤ a ∧ a < 16 := by
        have h := hh.out
        have : k = 0 ∨ k = 1 := by omega
        rcases this with rfl | rfl
        · simp [val2] at h; omega
        · simp [val2] at h; omega
      obtain ⟨ha0, ha1⟩ := ha0
      have hnx : a * 16 + (dig2 x y k : Int) = (val2 x y (k + 1) : Int) := by
        have h := hh.out
        have : k = 0 ∨ k = 1 := by omega
        rcases this with rfl | rfl
        · simp [val2, dig2] at h ⊢; omega
        · simp [val2, dig2] at h ⊢; omega
      have HN := Lib.hid hnx
      clear hnx hh hB
      generalize dig2 x y k = d at *
      by_cases hd10 : d < 10
      · rw [if_pos hd10] at hc
        go_wp2
        refine ⟨⟨k + 1, a * 16 + (d : Int), rfl, (by first | rfl | (congr 1; omega)), (by first | rfl | (congr 1; omega)), by omega, HN⟩, by simp [intOf]; omega⟩
      · rw [if_neg hd10] at hc
        have hl := fun w => lower_letter d (by omega) hd w
        go_wp2_with fail
        refine (hl _).mono ?_
        rintro e w' ⟨rfl, hw⟩
        rw [hw]
        clear hw w'
        go_wp2_with fail
        refine (hl _).mono ?_
        rintro e w' ⟨rfl, hw⟩
        rw [hw]
        clear hw w'
        go_wp2_with fail
        refine (hl _).mono ?_
        rintro e w' ⟨rfl, hw⟩
        rw [hw]
        clear hw w'
        go_wp2_with fail
        refine ⟨⟨k + 1, a * 16 + (d : Int), rfl, (by first | rfl | (congr 1; omega)), (by first | rfl | (congr 1; omega)), by omega, HN⟩, by simp [intOf]; omega⟩
    · obtain rfl : k = 2 := by omega
      have ha : a = ((x * 16 + y : Nat) : Int) := hh.out
      subst ha
      clear hh hB
      go_wp2
      go_ret2
      exact ⟨rfl, hCh⟩
end Go.Proofs.YtmjnbbdlnplmjaaDoor.Scr
