/- The document's Same. -/
import Derived.Test.YtmonkoclbcahiaaHpC
import Derived.Test.YtmonkoclbcahiaaBytes
namespace Go.Proofs.Ytmonkoclbcahiaa.By
open Go.RowKit Go.Proofs.Ytmonkoclbcahiaa.Hp
set_option linter.unusedVariables false
set_option linter.unusedSimpArgs false
def SameRel (l1 l2 : List Int) (w : World) (i : Value) (wr : World) : Prop := ∃ k : Nat, k ≤ l1.length ∧ i = .int .i64 k ∧ l1.take k = l2.take k ∧ Chg NoB w wr
def RetB (b : Bool) (w : World) (e : Ending) (w' : World) : Prop := e = .returned (.bool b) ∧ Chg NoB w w'
theorem RetB.below {w : World} {e : Ending} {w' : World} (h : RetB true w e w') : e = .returned (.bool true) ∧ Below w.heap.size w w' := ⟨h.1, h.2.below (Nat.le_refl _) (fun i hi => absurd hi (fun x => x))⟩
set_option maxHeartbeats 4000000 in
theorem same_any (A1 A2 : Option Addr) (c1 c2 : Nat) (l1 l2 : List Int) (w : World) (h1 : Rd w .u8 A1 l1) (h2 : Rd w .u8 A2 l2) :
    Calls Try.prog 19 #[.slice A1 l1.length c1, .slice A2 l2.length c2] w (RetB (decide (l1 = l2)) w) := by
  have b1 := h1.1
  have b2 := h2.1
  by_cases hl : l1.length = l2.length
  · have ht : (((l1.length : Nat) : Int) != (l2.length : Int)) = false := by rw [bne_eq_false_iff_eq]; omega
    have HL := Lib.hid hl
    clear hl
    go_enter Try.func19, Try.ntmps19
    go_wp2_with fail
    go_loopw [5] (fun i wr => SameRel l1 l2 w i wr) (fun i wr => l1.length - (intOf i).toNat)
    case atStart => exact ⟨0, by omega, rfl, by simp, Chg.refl _ _⟩
    case round =>
      obtain ⟨k, hk, rfl, htk, hC⟩ := hrel
      by_cases hlt : k < l1.length
      · obtain ⟨a1, rfl, hc1⟩ := (h1.chg hC (fun _ _ _ x => x)).at_ k hlt
        obtain ⟨a2, rfl, hc2⟩ := (h2.chg hC (fun _ _ _ x => x)).at_ k (by have := HL.out; omega)
        have n1 := take_succ_getD l1 k hlt
        have n2 := take_succ_getD l2 k (by have := HL.out; omega)
        have go1 : l1.getD k 0 = l2.getD k 0 → ∀ wr', Chg NoB w wr' → SameRel l1 l2 w (.int .i64 ((k : Int) + 1)) wr' := fun e wr' hh => ⟨k + 1, by omega, rfl, by rw [n1, n2, htk, e], hh⟩
        have no1 : l1.getD k 0 ≠ l2.getD k 0 → ∀ wr', Chg NoB w wr' → RetB (decide (l1 = l2)) w (.returned (.bool false)) wr' := by
          intro e wr' hh
          have : ¬ l1 = l2 := fun x => e (by rw [x])
          rw [decide_eq_false this]
          exact ⟨rfl, hh⟩
        have i1 : (k : Int) < (l1.length : Int) := by omega
        have i2 : (k : Int) < (l2.length : Int) := by have := HL.out; omega
        have G := Lib.hid go1
        have N := Lib.hid no1
        clear go1 no1 n1 n2 htk h1 h2
        generalize l1.getD k 0 = x at *
        generalize l2.getD k 0 = y at *
        by_cases e : x = y
        · have g := G.out e
          have hxy : (x != y) = false := by rw [bne_eq_false_iff_eq]; exact e
          have GG := Lib.hid g
          clear e g G N
          go_wp2_with fail
          go_quiet (fail)
          go_wp2_with fail
          go_roundw
          case rel => exact GG.out _ (hC.drewN _)
          case measure => simp [intOf]; omega
        · have g := N.out e
          have hxy : (x != y) = true := by rw [bne_iff_ne]; exact e
          have GG := Lib.hid g
          clear e g G N
          go_wp2_with fail
          go_quiet (fail)
          go_wp2_with fail
          go_ret
          exact GG.out _ (hC.drewN _)
      · obtain rfl : k = l1.length := by omega
        have e : l1 = l2 := by
          rw [List.take_length] at htk
          rw [htk, List.take_of_length_le (by have := HL.out; omega)]
        have F : RetB (decide (l1 = l2)) w (.returned (.bool true)) wr := by rw [decide_eq_true e]; exact ⟨rfl, hC⟩
        have FF := Lib.hid F
        clear e F htk h1 h2
        go_wp2_with fail
        go_ret
        exact FF.out
  · have ht : (((l1.length : Nat) : Int) != (l2.length : Int)) = true := by rw [bne_iff_ne]; omega
    have F : RetB (decide (l1 = l2)) w (.returned (.bool false)) w := by
      rw [decide_eq_false (fun e => hl (by rw [e]))]; exact ⟨rfl, Chg.refl _ _⟩
    have FF := Lib.hid F
    clear hl F
    go_enter Try.func19, Try.ntmps19
    go_wp2_with fail
    go_ret
    exact FF.out
end Go.Proofs.Ytmonkoclbcahiaa.By
