/- Frames and what they are used for: Zone, set. -/
import Derived.Test.YtimdojkhdneecaaPool
namespace Go.Proofs.Ytimdojkhdneecaa.Pool
open Go.RowKit Go.Proofs.Ytimdojkhdneecaa.Hp Go.Proofs.Ytimdojkhdneecaa.Runs
set_option linter.unusedVariables false
set_option linter.unusedSimpArgs false
def zoneD (Z : Nat → Int) (s : Int) : Int := if 0 ≤ s ∧ s < 32 then Z s.toNat else 0
def upd (U : Nat → Int) (f : Nat) (u : Int) : Nat → Int := fun g => if g = f then u else U g
theorem RPool.setUse {w : World} {p b bi : Nat} {U Z : Nat → Int} {I : Nat → Bool} {L : List Int} (h : RPool w p b bi U Z I L) (f : Nat) (hf : f < 1024) (u : Int) : RPool (w.setCell ⟨p, f, none⟩ (.int .i64 u)) p b bi (upd U f u) Z I L := by
  obtain ⟨⟨C, h0, hz, h1, h2, h3⟩, hr, hl, k1, k2⟩ := h
  refine ⟨⟨_, bset h0 _ _, by simpa using hz, fun g hg => ?_, ?_, fun s hs => ⟨?_, ?_⟩⟩, ⟨bfar hr.st (fun e => k1 e.symm) _, bfar hr.xs (fun e => k2 e.symm) _, hr.ne, hr.le⟩, hl, k1, k2⟩
  · by_cases e : f = g
    · subst e
      rw [Array.getElem?_setIfInBounds_self_of_lt (by omega)]
      simp [upd]
    · rw [Array.getElem?_setIfInBounds_ne e, h1 g hg]
      unfold upd
      rw [if_neg (fun x => e x.symm)]
  · rw [Array.getElem?_setIfInBounds_ne (by omega)]; exact h2
  · rw [Array.getElem?_setIfInBounds_ne (by omega)]; exact (h3 s hs).1
  · rw [Array.getElem?_setIfInBounds_ne (by omega)]; exact (h3 s hs).2
theorem RPool.frz {w : World} {p b bi : Nat} {U Z : Nat → Int} {I : Nat → Bool} {L : List Int} (h : RPool w p b bi U Z I L) (i : Nat) : w.frozen? ⟨p, i, none⟩ = false := by
  obtain ⟨C, h0, _⟩ := h.st
  exact bfroz h0 i
def SetPost (w : World) (p b bi : Nat) (U Z : Nat → Int) (I : Nat → Bool) (L : List Int) (f : Nat) (u : Int) (e : Ending) (w' : World) : Prop :=
  e = .returned (.tuple #[]) ∧ RPool w' p b bi (upd U f u) Z I (L.set f (if u = 1 then 1 else 0)) ∧ Chg (fun i => i = p ∨ i = bi) w w'
theorem put1_in (v : Int) (L : List Int) (f : Nat) (h : f < L.length) : putL v L [(f : Int)] = L.set f v := by
  unfold putL put1
  simp only [List.foldl_cons, List.foldl_nil]
  rw [if_pos ⟨by omega, by omega⟩]
  simp
theorem rd_one (w : World) (g : Nat) (hg : g = w.heap.size) (x : Int) : Rd (w.alloc (.cells #[.int .i64 x] 3)) .i64 (some ⟨g, 0, none⟩) [x] := by
  subst hg
  refine ⟨by simp, fun _ => ⟨_, rfl, fun j hj => ?_⟩⟩
  have hb : Blk (w.alloc (.cells #[.int .i64 x] 3)) w.heap.size #[.int .i64 x] 3 := bnew w _
  obtain rfl : j = 0 := by simpa using hj
  have e : (⟨w.heap.size, 0, none⟩ : Addr).add 0 = ⟨w.heap.size, 0, none⟩ := rfl
  rw [e, bcell hb]
  rfl
set_option maxHeartbeats 2000000 in
theorem set_any (p b bi : Nat) (U Z : Nat → Int) (I : Nat → Bool) (L : List Int) (f : Nat) (u : Int) (w : World) (hf : f < 1024) (h : RPool w p b bi U Z I L) :
    Calls Try.prog 44 #[.pointer (some ⟨p, 0, none⟩), .int .i64 f, .int .i64 u] w (SetPost w p b bi U Z I L f u) := by
  have hc := h.use f hf
  have hz := h.frz f
  have h2 := h.setUse f hf u
  have C2 : Chg (fun i => i = p ∨ i = bi) w (w.setCell ⟨p, f, none⟩ (.int .i64 u)) := Chg.set (S := fun i => i = p ∨ i = bi) (Chg.refl _ _) (p := ⟨p, f, none⟩) (.inl (.inl rfl)) _
  have hs := h2.set
  have bl : bi < w.heap.size := blt h.fr.xs
  have bp : p < w.heap.size := by obtain ⟨C, h0, _⟩ := h.st; exact blt h0
  have bb : b < w.heap.size := blt h.fr.st
  have PW := h2.chg ((Chg.refl NoB (w.setCell ⟨p, f, none⟩ (.int .i64 u))).alloc (.cells #[.int .i64 (f : Int)] 3)) (fun x => x) (fun x => x) (fun x => x)
  have CW := C2.alloc (.cells #[.int .i64 (f : Int)] 3)
  have RW := PW.fr
  clear h2 C2
  by_cases e : u = 1
  · subst e
    go_enter Try.func44, Try.ntmps44
    go_wp2_with fail
    refine (add_any b bi L (some ⟨w.heap.size, 0, none⟩) 1 [(f : Int)] _ RW (rd_one _ _ (by simp) _) (fun _ ad ea => by have := (Option.some.inj ea).symm; subst this; exact (by show w.heap.size ≠ bi; omega))).mono ?_
    rintro e w3 ⟨rfl, R3, k3⟩
    rw [put1_in _ _ _ (by rw [h.ll]; exact hf)] at R3
    have fin : SetPost w p b bi U Z I L f 1 (.returned (.tuple #[])) w3 := by
      refine ⟨rfl, ?_, CW.trans k3 (fun i hi hh => .inr hh)⟩
      rw [if_pos rfl]
      obtain ⟨C, g0, g1⟩ := PW.st
      exact ⟨⟨C, k3.blk g0 (fun x => h.n2 x), g1⟩, R3, by rw [List.length_set]; exact h.ll, h.n1, h.n2⟩
    clear R3 k3
    go_wp2_with fail
    go_end0
    exact fin
  · have hne : (u == 1) = false := beq_eq_false_iff_ne.mpr e
    go_enter Try.func44, Try.ntmps44
    go_wp2_with fail
    refine (drop_any b bi L (some ⟨w.heap.size, 0, none⟩) 1 [(f : Int)] _ RW (rd_one _ _ (by simp) _) (fun _ ad ea => by have := (Option.some.inj ea).symm; subst this; exact (by show w.heap.size ≠ bi; omega))).mono ?_
    rintro e w3 ⟨rfl, R3, k3⟩
    rw [put1_in _ _ _ (by rw [h.ll]; exact hf)] at R3
    have fin : SetPost w p b bi U Z I L f u (.returned (.tuple #[])) w3 := by
      refine ⟨rfl, ?_, CW.trans k3 (fun i hi hh => .inr hh)⟩
      rw [if_neg e]
      obtain ⟨C, g0, g1⟩ := PW.st
      exact ⟨⟨C, k3.blk g0 (fun x => h.n2 x), g1⟩, R3, by rw [List.length_set]; exact h.ll, h.n1, h.n2⟩
    clear R3 k3
    go_wp2_with fail
    go_end0
    exact fin
end Go.Proofs.Ytimdojkhdneecaa.Pool
