/- Frames and what they are used for: Isolate. -/
import Derived.Test.YtimdojkhdneecaaPoolG
namespace Go.Proofs.Ytimdojkhdneecaa.Pool
open Go.RowKit Go.Proofs.Ytimdojkhdneecaa.Hp Go.Proofs.Ytimdojkhdneecaa.Runs
set_option linter.unusedVariables false
set_option linter.unusedSimpArgs false
def freeL (U : Nat → Int) : List Int := (List.range 1024).map (fun f => if U f = 1 then 1 else 0)
theorem freeL_length (U : Nat → Int) : (freeL U).length = 1024 := by simp [freeL]
theorem freeL_get (U : Nat → Int) (f : Nat) (hf : f < 1024) : (freeL U).getD f 0 = if U f = 1 then 1 else 0 := by simp [freeL, hf]
theorem freeL_set (U : Nat → Int) (f : Nat) (u : Int) (hf : f < 1024) : (freeL U).set f (if u = 1 then 1 else 0) = freeL (upd U f u) := by
  apply List.ext_getElem
  · simp [freeL]
  · intro i h1 h2
    simp only [freeL, List.getElem_set, List.getElem_map, List.getElem_range, upd]
    by_cases e : f = i
    · subst e; simp
    · have e' : ¬ i = f := fun x => e x.symm
      simp [e, e']
theorem freeL_congr (U V : Nat → Int) (h : ∀ f, f < 1024 → U f = V f) : freeL U = freeL V := by
  unfold freeL
  apply List.map_congr_left
  intro f hf
  rw [h f (by simpa using hf)]
/-- A pool whose set of free frames is what the uses say. -/
abbrev PoolAt (w : World) (p b bi : Nat) (U Z : Nat → Int) (I : Nat → Bool) : Prop := RPool w p b bi U Z I (freeL U)
theorem RPool.bigZ {w : World} {p b bi : Nat} {U Z Z' : Nat → Int} {I I' : Nat → Bool} {L : List Int} (h : RPool w p b bi U Z I L) (hZ : ∀ s, s < 32 → Z' s = Z s) (hI : ∀ s, s < 32 → I' s = I s) : RPool w p b bi U Z' I' L := by
  obtain ⟨⟨C, h0, hz, h1, h2, h3⟩, hr, hl, k1, k2⟩ := h
  exact ⟨⟨C, h0, hz, h1, h2, fun s hs => by rw [hZ s hs, hI s hs]; exact h3 s hs⟩, hr, hl, k1, k2⟩
/-- a section that is on line: nothing comes of it now, or again; else nothing -/
def IsoPost (w : World) (p b bi : Nat) (U Z : Nat → Int) (I : Nat → Bool) (L : List Int) (s : Int) (on : Bool) (e : Ending) (w' : World) : Prop :=
  (zoneD Z s = 0 ∧ e = .returned (.bool false) ∧ w = w') ∨
  (zoneD Z s ≠ 0 ∧ e = .returned (.bool true) ∧ RPool w' p b bi U Z (updB I s.toNat on) L ∧ Chg (fun i => i = p) w w')
end Go.Proofs.Ytimdojkhdneecaa.Pool
