/- Frames and what they are used for: the data, and the functions that read it. -/
import Derived.Test.YtimdojkhdneecaaRuns
namespace Go.Proofs.Ytimdojkhdneecaa.Pool
open Go.RowKit Go.Proofs.Ytimdojkhdneecaa.Hp Go.Proofs.Ytimdojkhdneecaa.Runs
set_option linter.unusedVariables false
set_option linter.unusedSimpArgs false
/-- A pool at block p, its free frames at blocks b and bi: each frame's use, each section's zone, which are isolated, which frames are in the set. -/
structure RPool (w : World) (p b bi : Nat) (U Z : Nat → Int) (I : Nat → Bool) (L : List Int) : Prop where
  st : ∃ C, Blk w p C 85 ∧ C.size = 1089 ∧ (∀ f, f < 1024 → C[f]? = some (.int .i64 (U f))) ∧ C[1024]? = some (.pointer (some ⟨b, 0, none⟩)) ∧ (∀ s, s < 32 → C[1025 + s * 2]? = some (.int .i64 (Z s)) ∧ C[1025 + s * 2 + 1]? = some (.bool (I s)))
  fr : RSet w b bi L
  ll : L.length = 1024
  n1 : p ≠ b
  n2 : p ≠ bi
theorem RPool.chg {S : Nat → Prop} {w w' : World} {p b bi : Nat} {U Z : Nat → Int} {I : Nat → Bool} {L : List Int} (h : RPool w p b bi U Z I L) (hc : Chg S w w') (h1 : ¬ S p) (h2 : ¬ S b) (h3 : ¬ S bi) : RPool w' p b bi U Z I L := by
  obtain ⟨⟨C, h0, hr⟩, hf, hl, k1, k2⟩ := h
  exact ⟨⟨C, hc.blk h0 h1, hr⟩, hf.chg hc h2 h3, hl, k1, k2⟩
theorem RPool.use {w : World} {p b bi : Nat} {U Z : Nat → Int} {I : Nat → Bool} {L : List Int} (h : RPool w p b bi U Z I L) (f : Nat) (hf : f < 1024) : w.cell? ⟨p, f, none⟩ = some (.int .i64 (U f)) := by
  obtain ⟨C, h0, h1, h2, h3, h4⟩ := h.st
  rw [bcell h0]; exact h2 f hf
theorem RPool.set {w : World} {p b bi : Nat} {U Z : Nat → Int} {I : Nat → Bool} {L : List Int} (h : RPool w p b bi U Z I L) : w.cell? ⟨p, 1024, none⟩ = some (.pointer (some ⟨b, 0, none⟩)) := by
  obtain ⟨C, h0, h1, h2, h3, h4⟩ := h.st
  rw [bcell h0]; exact h3
theorem RPool.zone {w : World} {p b bi : Nat} {U Z : Nat → Int} {I : Nat → Bool} {L : List Int} (h : RPool w p b bi U Z I L) (s : Nat) (hs : s < 32) : w.cell? ⟨p, 1025 + s * 2, none⟩ = some (.int .i64 (Z s)) := by
  obtain ⟨C, h0, h1, h2, h3, h4⟩ := h.st
  rw [bcell h0]; exact (h4 s hs).1
theorem RPool.iso {w : World} {p b bi : Nat} {U Z : Nat → Int} {I : Nat → Bool} {L : List Int} (h : RPool w p b bi U Z I L) (s : Nat) (hs : s < 32) : w.cell? ⟨p, 1025 + s * 2 + 1, none⟩ = some (.bool (I s)) := by
  obtain ⟨C, h0, h1, h2, h3, h4⟩ := h.st
  rw [bcell h0]; exact (h4 s hs).2
theorem frame_any (f : Int) (w : World) : Calls Try.prog 40 #[.int .i64 f] w fun e w' => e = .returned (.bool (decide (0 ≤ f ∧ f < 1024))) ∧ w = w' := by
  by_cases h1 : 0 ≤ f
  · by_cases h2 : f < 1024
    · rw [decide_eq_true ⟨h1, h2⟩]
      go_enter Try.func40, Try.ntmps40
      go_wp2
      go_ret
      exact ⟨rfl, rfl⟩
    · rw [decide_eq_false (fun x => h2 x.2)]
      go_enter Try.func40, Try.ntmps40
      go_wp2
      go_ret
      exact ⟨rfl, rfl⟩
  · rw [decide_eq_false (fun x => h1 x.1)]
    go_enter Try.func40, Try.ntmps40
    go_wp2
    go_ret
    exact ⟨rfl, rfl⟩
theorem there_any (f : Int) (w : World) : Calls Try.prog 45 #[.int .i64 f] w fun e w' => e = .returned (.bool (decide (0 ≤ f ∧ f < 32))) ∧ w = w' := by
  by_cases h1 : 0 ≤ f
  · by_cases h2 : f < 32
    · rw [decide_eq_true ⟨h1, h2⟩]
      go_enter Try.func45, Try.ntmps45
      go_wp2
      go_ret
      exact ⟨rfl, rfl⟩
    · rw [decide_eq_false (fun x => h2 x.2)]
      go_enter Try.func45, Try.ntmps45
      go_wp2
      go_ret
      exact ⟨rfl, rfl⟩
  · rw [decide_eq_false (fun x => h1 x.1)]
    go_enter Try.func45, Try.ntmps45
    go_wp2
    go_ret
    exact ⟨rfl, rfl⟩
theorem use_nil (f : Int) (w : World) : Calls Try.prog 18 #[.pointer none, .int .i64 f] w fun e w' => e = .returned (.int .i64 0) ∧ w = w' := by
  go_enter Try.func18, Try.ntmps18
  go_wp2
  go_ret
  exact ⟨rfl, rfl⟩
def useD (U : Nat → Int) (f : Int) : Int := if 0 ≤ f ∧ f < 1024 then U f.toNat else 0
theorem use_any (p b bi : Nat) (U Z : Nat → Int) (I : Nat → Bool) (L : List Int) (f : Int) (w : World) (h : RPool w p b bi U Z I L) :
    Calls Try.prog 18 #[.pointer (some ⟨p, 0, none⟩), .int .i64 f] w fun e w' => e = .returned (.int .i64 (useD U f)) ∧ w = w' := by
  by_cases h1 : 0 ≤ f ∧ f < 1024
  · have hc := h.use f.toNat (by omega)
    have hu : useD U f = U f.toNat := if_pos h1
    rw [hu]
    clear hu
    have hd : decide (0 ≤ f ∧ f < 1024) = true := decide_eq_true h1
    obtain ⟨h0, h2⟩ := h1
    go_enter Try.func18, Try.ntmps18
    go_wp2_with fail
    refine (frame_any f _).mono ?_
    rintro e w1 ⟨rfl, rfl⟩
    rw [hd]
    clear hd
    go_wp2_with fail
    go_ret
    exact ⟨rfl, rfl⟩
  · have hu : useD U f = 0 := if_neg h1
    rw [hu]
    have hd : decide (0 ≤ f ∧ f < 1024) = false := decide_eq_false h1
    clear hu h1
    go_enter Try.func18, Try.ntmps18
    go_wp2_with fail
    refine (frame_any f _).mono ?_
    rintro e w1 ⟨rfl, rfl⟩
    rw [hd]
    go_wp2_with fail
    go_ret
    exact ⟨rfl, rfl⟩
end Go.Proofs.Ytimdojkhdneecaa.Pool
