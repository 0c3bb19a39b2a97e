/- Frames and what they are used for: a section's cells are stored; Isolate. -/
import Derived.Test.YtimdojkhdneecaaPoolF
namespace Go.Proofs.Ytimdojkhdneecaa.Pool
open Go.RowKit Go.Proofs.Ytimdojkhdneecaa.Hp Go.Proofs.Ytimdojkhdneecaa.Runs
set_option linter.unusedVariables false
set_option linter.unusedSimpArgs false
def updB (I : Nat → Bool) (s : Nat) (v : Bool) : Nat → Bool := fun g => if g = s then v else I g
theorem RPool.setIso {w : World} {p b bi : Nat} {U Z : Nat → Int} {I : Nat → Bool} {L : List Int} (h : RPool w p b bi U Z I L) (s : Nat) (hs : s < 32) (v : Bool) : RPool (w.setCell ⟨p, 1025 + s * 2 + 1, none⟩ (.bool v)) p b bi U Z (updB I s v) L := by
  obtain ⟨⟨C, h0, hz, h1, h2, h3⟩, hr, hl, k1, k2⟩ := h
  refine ⟨⟨_, bset h0 _ _, by simpa using hz, fun g hg => ?_, ?_, fun t ht => ⟨?_, ?_⟩⟩, ⟨bfar hr.st (fun e => k1 e.symm) _, bfar hr.xs (fun e => k2 e.symm) _, hr.ne, hr.le⟩, hl, k1, k2⟩
  · rw [Array.getElem?_setIfInBounds_ne (by omega)]; exact h1 g hg
  · rw [Array.getElem?_setIfInBounds_ne (by omega)]; exact h2
  · rw [Array.getElem?_setIfInBounds_ne (by omega)]; exact (h3 t ht).1
  · by_cases e : s = t
    · subst e
      rw [Array.getElem?_setIfInBounds_self_of_lt (by omega)]
      simp [updB]
    · rw [Array.getElem?_setIfInBounds_ne (by omega), (h3 t ht).2]
      unfold updB
      rw [if_neg (fun x => e x.symm)]
theorem RPool.setZone {w : World} {p b bi : Nat} {U Z : Nat → Int} {I : Nat → Bool} {L : List Int} (h : RPool w p b bi U Z I L) (s : Nat) (hs : s < 32) (v : Int) : RPool (w.setCell ⟨p, 1025 + s * 2, none⟩ (.int .i64 v)) p b bi U (upd Z s v) I L := by
  obtain ⟨⟨C, h0, hz, h1, h2, h3⟩, hr, hl, k1, k2⟩ := h
  refine ⟨⟨_, bset h0 _ _, by simpa using hz, fun g hg => ?_, ?_, fun t ht => ⟨?_, ?_⟩⟩, ⟨bfar hr.st (fun e => k1 e.symm) _, bfar hr.xs (fun e => k2 e.symm) _, hr.ne, hr.le⟩, hl, k1, k2⟩
  · rw [Array.getElem?_setIfInBounds_ne (by omega)]; exact h1 g hg
  · rw [Array.getElem?_setIfInBounds_ne (by omega)]; exact h2
  · by_cases e : s = t
    · subst e
      rw [Array.getElem?_setIfInBounds_self_of_lt (by omega)]
      simp [upd]
    · rw [Array.getElem?_setIfInBounds_ne (by omega), (h3 t ht).1]
      unfold upd
      rw [if_neg (fun x => e x.symm)]
  · rw [Array.getElem?_setIfInBounds_ne (by omega)]; exact (h3 t ht).2
end Go.Proofs.Ytimdojkhdneecaa.Pool
