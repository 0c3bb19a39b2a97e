/- Frames and what they are used for: Isolate. -/
import Derived.Test.YtlhlnkfmmklkbaaPoolG
namespace Go.Proofs.Ytlhlnkfmmklkbaa.Pool
open Go.RowKit Go.Proofs.Ytlhlnkfmmklkbaa.Hp Go.Proofs.Ytlhlnkfmmklkbaa.Runs
set_option linter.unusedVariables false
set_option linter.unusedSimpArgs false
def freeL (U : Nat → Int) : List Int := (List.range 1024).map (fun f => if U f = 1 then 1 else 0)
theorem freeL_length (U : Nat → Int) : (freeL U).length = 1024 := by simp [freeL]
theorem freeL_get (U : Nat → Int) (f : Nat) (hf : f < 1024) : (freeL U).getD f 0 = if U f = 1 then 1 else 0 := by simp [freeL, hf]
theorem freeL_set (U : Nat → Int) (f : Nat) (u : Int) (hf : f < 1024) : (freeL U).set f (if u = 1 then 1 else 0) = freeL (upd U f u) := by
  apply List.ext_getElem
  · simp [freeL]
  · intro i h1 h2
    simp only [freeL, List.getElem_set, List.getElem_map, List.getElem_range, upd]
    by_cases e : f = i
    · subst e; simp
    · have e' : ¬ i = f := fun x => e x.symm
      simp [e, e']
theorem freeL_congr (U V : Nat → Int) (h : ∀ f, f < 1024 → U f = V f) : freeL U = freeL V := by
  unfold freeL
  apply List.map_congr_left
  intro f hf
  rw [h f (by simpa using hf)]
/-- A pool whose set of free frames is what the uses say. -/
abbrev PoolAt (w : World) (p b bi : Nat) (U Z : Nat → Int) (I : Nat → Bool) : Prop := RPool w p b bi U Z I (freeL U)
theorem RPool.bigZ {w : World} {p b bi : Nat} {U Z Z' : Nat → Int} {I I' : Nat → Bool} {L : List Int} (h : RPool w p b bi U Z I L) (hZ : ∀ s, s < 32 → Z' s = Z s) (hI : ∀ s, s < 32 → I' s = I s) : RPool w p b bi U Z' I' L := by
  obtain ⟨⟨C, h0, hz, h1, h2, h3⟩, hr, hl, k1, k2⟩ := h
  exact ⟨⟨C, h0, hz, h1, h2, fun s hs => by rw [hZ s hs, hI s hs]; exact h3 s hs⟩, hr, hl, k1, k2⟩
/-- a section that is on line: nothing comes of it now, or again; else nothing -/
def IsoPost (w : World) (p b bi : Nat) (U Z : Nat → Int) (I : Nat → Bool) (L : List Int) (s : Int) (on : Bool) (e : Ending) (w' : World) : Prop :=
  (zoneD Z s = 0 ∧ e = .returned (.bool false) ∧ w = w') ∨
  (zoneD Z s ≠ 0 ∧ e = .returned (.bool true) ∧ RPool w' p b bi U Z (updB I s.toNat on) L ∧ Chg (fun i => i = p) w w')
theorem iso_any (p b bi : Nat) (U Z : Nat → Int) (I : Nat → Bool) (L : List Int) (s : Int) (on : Bool) (w : World) (h : RPool w p b bi U Z I L) :
    Calls Try.prog 27 #[.pointer (some ⟨p, 0, none⟩), .int .i64 s, .bool on] w (IsoPost w p b bi U Z I L s on) := by
  have hz := zone_any p b bi U Z I L s w h
  by_cases c : zoneD Z s = 0
  · have fin : IsoPost w p b bi U Z I L s on (.returned (.bool false)) w := .inl ⟨c, rfl, rfl⟩
    have FIN := Lib.hid fin
    rw [c] at hz
    clear fin h c
    go_enter Try.func27, Try.ntmps27
    go_wp2_with fail
    refine hz.mono ?_
    rintro e w1 ⟨rfl, rfl⟩
    go_wp2_with fail
    go_ret
    exact FIN.out
  · have hs : 0 ≤ s ∧ s < 32 := by
      by_cases x : 0 ≤ s ∧ s < 32
      · exact x
      · exact absurd (show zoneD Z s = 0 from if_neg x) c
    obtain ⟨t, rfl⟩ := Int.eq_ofNat_of_zero_le hs.1
    have ht : t < 32 := by omega
    have hc := h.iso t ht
    have hfz := h.frz (1025 + t * 2 + 1)
    have fin : IsoPost w p b bi U Z I L t on (.returned (.bool true)) (w.setCell ⟨p, 1025 + t * 2 + 1, none⟩ (.bool on)) := .inr ⟨c, rfl, h.setIso t ht on, Chg.set (S := fun i => i = p) (Chg.refl _ w) (p := ⟨p, 1025 + t * 2 + 1, none⟩) (.inl rfl) _⟩
    have FIN := Lib.hid fin
    have hne : (zoneD Z t == 0) = false := beq_eq_false_iff_ne.mpr c
    clear fin h c hs
    generalize zoneD Z t = z at hz hne
    go_enter Try.func27, Try.ntmps27
    go_wp2_with fail
    refine hz.mono ?_
    rintro e w1 ⟨rfl, rfl⟩
    go_wp2_with fail
    go_ret
    exact FIN.out
end Go.Proofs.Ytlhlnkfmmklkbaa.Pool
