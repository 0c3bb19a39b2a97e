/- Frames and what they are used for: a section's frames, Spoil, Isolate. -/
import Derived.Test.YtimdojkhdneecaaPoolC
namespace Go.Proofs.Ytimdojkhdneecaa.Pool
open Go.RowKit Go.Proofs.Ytimdojkhdneecaa.Hp Go.Proofs.Ytimdojkhdneecaa.Runs
set_option linter.unusedVariables false
set_option linter.unusedSimpArgs false
theorem frames_in (s : Nat) (hs : s < 32) (w : World) : Calls Try.prog 46 #[.int .i64 s] w fun e w' => e = .returned (.tuple #[.int .i64 ((s : Int) * 32), .int .i64 (((s : Int) + 1) * 32)]) ∧ w = w' := by
  have h1 : ¬ ((s : Int) < 0) := by omega
  have h2 : ¬ ((32 : Int) ≤ s) := by omega
  go_enter Try.func46, Try.ntmps46
  go_wp2
  go_ret2
  exact ⟨rfl, rfl⟩
theorem frames_out (s : Int) (hs : s < 0 ∨ 32 ≤ s) (w : World) : Calls Try.prog 46 #[.int .i64 s] w fun e w' => e = .returned (.tuple #[.int .i64 0, .int .i64 0]) ∧ w = w' := by
  by_cases h1 : s < 0
  · go_enter Try.func46, Try.ntmps46
    go_wp2
    go_ret2
    exact ⟨rfl, rfl⟩
  · have h2 : (32 : Int) ≤ s := by omega
    clear hs
    go_enter Try.func46, Try.ntmps46
    go_wp2
    go_ret2
    exact ⟨rfl, rfl⟩
/-- a frame that may be and is not bad: it is bad now; else nothing -/
def SpoilPost (w : World) (p b bi : Nat) (U Z : Nat → Int) (I : Nat → Bool) (L : List Int) (f : Int) (e : Ending) (w' : World) : Prop :=
  (¬ ((0 ≤ f ∧ f < 1024) ∧ U f.toNat ≠ 6) ∧ e = .returned (.bool false) ∧ w = w') ∨
  (((0 ≤ f ∧ f < 1024) ∧ U f.toNat ≠ 6) ∧ e = .returned (.bool true) ∧ RPool w' p b bi (upd U f.toNat 6) Z I (L.set f.toNat 0) ∧ Chg (fun i => i = p ∨ i = bi) w w')
theorem spoil_any (p b bi : Nat) (U Z : Nat → Int) (I : Nat → Bool) (L : List Int) (f : Int) (w : World) (h : RPool w p b bi U Z I L) :
    Calls Try.prog 22 #[.pointer (some ⟨p, 0, none⟩), .int .i64 f] w (SpoilPost w p b bi U Z I L f) := by
  by_cases hf : 0 ≤ f ∧ f < 1024
  · obtain ⟨g, rfl⟩ := Int.eq_ofNat_of_zero_le hf.1
    have hg : g < 1024 := by omega
    have hd : decide (0 ≤ (g : Int) ∧ (g : Int) < 1024) = true := decide_eq_true hf
    have hc := h.use g hg
    by_cases c : U g = 6
    · have fin : SpoilPost w p b bi U Z I L g (.returned (.bool false)) w := .inl ⟨fun x => x.2 c, rfl, rfl⟩
      have FIN := Lib.hid fin
      rw [c] at hc
      clear fin h c hf
      go_enter Try.func22, Try.ntmps22
      go_wp2_with fail
      refine (frame_any g _).mono ?_
      rintro e w1 ⟨rfl, rfl⟩
      rw [hd]
      clear hd
      go_wp2_with fail
      go_ret
      exact FIN.out
    · have hs := set_any p b bi U Z I L g 6 w hg h
      have fin : ∀ w', SetPost w p b bi U Z I L g 6 (.returned (.tuple #[])) w' → SpoilPost w p b bi U Z I L g (.returned (.bool true)) w' := fun w' hp => .inr ⟨⟨hf, c⟩, rfl, by have := hp.2.1; rw [if_neg (by decide)] at this; simpa using this, hp.2.2⟩
      have FIN := Lib.hid fin
      have hne : (U g == 6) = false := beq_eq_false_iff_ne.mpr c
      clear fin h hf
      generalize U g = x at hc hne c
      clear c
      go_enter Try.func22, Try.ntmps22
      go_wp2_with fail
      refine (frame_any g _).mono ?_
      rintro e w1 ⟨rfl, rfl⟩
      rw [hd]
      clear hd
      go_wp2_with fail
      refine hs.mono ?_
      rintro e w2 hp
      obtain rfl := hp.1
      have F := FIN.out _ hp
      clear hp hs FIN
      go_wp2_with fail
      go_ret
      exact F
  · have fin : SpoilPost w p b bi U Z I L f (.returned (.bool false)) w := .inl ⟨fun x => hf x.1, rfl, rfl⟩
    have FIN := Lib.hid fin
    have hd : decide (0 ≤ f ∧ f < 1024) = false := decide_eq_false hf
    clear fin h hf
    go_enter Try.func22, Try.ntmps22
    go_wp2_with fail
    refine (frame_any f _).mono ?_
    rintro e w1 ⟨rfl, rfl⟩
    rw [hd]
    clear hd
    go_wp2_with fail
    go_ret
    exact FIN.out
end Go.Proofs.Ytimdojkhdneecaa.Pool
