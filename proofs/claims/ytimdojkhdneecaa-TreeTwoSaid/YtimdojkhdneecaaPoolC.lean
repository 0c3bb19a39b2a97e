/- Frames and what they are used for: Free, Spoil. -/
import Derived.Test.YtimdojkhdneecaaPoolB
namespace Go.Proofs.Ytimdojkhdneecaa.Pool
open Go.RowKit Go.Proofs.Ytimdojkhdneecaa.Hp Go.Proofs.Ytimdojkhdneecaa.Runs
set_option linter.unusedVariables false
set_option linter.unusedSimpArgs false
theorem free_nil (f : Int) (w : World) : Calls Try.prog 42 #[.pointer none, .int .i64 f] w fun e w' => e = .returned (.bool false) ∧ w = w' := by
  go_enter Try.func42, Try.ntmps42
  go_wp2_with fail
  refine (use_nil f _).mono ?_
  rintro e w1 ⟨rfl, rfl⟩
  go_wp2_with fail
  go_ret
  exact ⟨rfl, rfl⟩
theorem spoil_nil (f : Int) (w : World) : Calls Try.prog 22 #[.pointer none, .int .i64 f] w fun e w' => e = .returned (.bool false) ∧ w = w' := by
  go_enter Try.func22, Try.ntmps22
  go_wp2_with fail
  go_ret
  exact ⟨rfl, rfl⟩
theorem online_nil (s z : Int) (A : Option Addr) (n c : Nat) (w : World) : Calls Try.prog 23 #[.pointer none, .int .i64 s, .int .i64 z, .slice A n c] w fun e w' => e = .returned (.int .i64 1) ∧ w = w' := by
  go_enter Try.func23, Try.ntmps23
  go_wp2_with fail
  go_ret
  exact ⟨rfl, rfl⟩
/-- of a frame that is used, it is free now; else nothing -/
def FreePost (w : World) (p b bi : Nat) (U Z : Nat → Int) (I : Nat → Bool) (L : List Int) (f : Int) (e : Ending) (w' : World) : Prop :=
  (¬ (2 ≤ useD U f ∧ useD U f ≤ 5) ∧ e = .returned (.bool false) ∧ w = w') ∨
  ((2 ≤ useD U f ∧ useD U f ≤ 5) ∧ e = .returned (.bool true) ∧ RPool w' p b bi (upd U f.toNat 1) Z I (L.set f.toNat 1) ∧ Chg (fun i => i = p ∨ i = bi) w w')
theorem free_any (p b bi : Nat) (U Z : Nat → Int) (I : Nat → Bool) (L : List Int) (f : Int) (w : World) (h : RPool w p b bi U Z I L) :
    Calls Try.prog 42 #[.pointer (some ⟨p, 0, none⟩), .int .i64 f] w (FreePost w p b bi U Z I L f) := by
  by_cases c : 2 ≤ useD U f ∧ useD U f ≤ 5
  · have hf : 0 ≤ f ∧ f < 1024 := by
      by_cases x : 0 ≤ f ∧ f < 1024
      · exact x
      · have := c.1
        rw [show useD U f = 0 from if_neg x] at this
        omega
    obtain ⟨g, rfl⟩ := Int.eq_ofNat_of_zero_le hf.1
    have hs := set_any p b bi U Z I L g 1 w (by omega) h
    have hu := use_any p b bi U Z I L g w h
    have fin : ∀ w', SetPost w p b bi U Z I L g 1 (.returned (.tuple #[])) w' → FreePost w p b bi U Z I L g (.returned (.bool true)) w' := fun w' hp => .inr ⟨c, rfl, by have := hp.2.1; rw [if_pos rfl] at this; simpa using this, hp.2.2⟩
    have FIN := Lib.hid fin
    obtain ⟨x1, x2⟩ := c
    clear fin h
    generalize useD U g = x at *
    go_enter Try.func42, Try.ntmps42
    go_wp2_with fail
    refine hu.mono ?_
    rintro e w1 ⟨rfl, rfl⟩
    clear hu
    go_wp2_with fail
    refine hs.mono ?_
    rintro e w2 hp
    obtain rfl := hp.1
    have F := FIN.out _ hp
    clear hp hs FIN
    go_wp2_with fail
    go_ret
    exact F
  · have hu := use_any p b bi U Z I L f w h
    have fin : FreePost w p b bi U Z I L f (.returned (.bool false)) w := .inl ⟨c, rfl, rfl⟩
    have FIN := Lib.hid fin
    clear fin h
    generalize useD U f = x at *
    by_cases x1 : x < 2
    · clear c
      go_enter Try.func42, Try.ntmps42
      go_wp2_with fail
      refine hu.mono ?_
      rintro e w1 ⟨rfl, rfl⟩
      clear hu
      go_wp2_with fail
      go_ret
      exact FIN.out
    · have x2 : 5 < x := by omega
      clear c
      go_enter Try.func42, Try.ntmps42
      go_wp2_with fail
      refine hu.mono ?_
      rintro e w1 ⟨rfl, rfl⟩
      clear hu
      go_wp2_with fail
      go_ret
      exact FIN.out
end Go.Proofs.Ytimdojkhdneecaa.Pool
