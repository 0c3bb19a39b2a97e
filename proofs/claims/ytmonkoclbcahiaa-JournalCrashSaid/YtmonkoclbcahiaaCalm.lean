/- A disk: where nothing fails; a buffer. -/
import Derived.Test.YtmonkoclbcahiaaCrashB
namespace Go.Proofs.Ytmonkoclbcahiaa.Disk
open Go.RowKit Go.Proofs.Ytmonkoclbcahiaa.Hp Go.Proofs.Ytmonkoclbcahiaa.By
set_option linter.unusedVariables false
set_option linter.unusedSimpArgs false
def Calm (s : DSt) : Prop := s.num = ⟨0, 0, -1, false⟩
theorem calm_io {s : DSt} (h : Calm s) (n : Int) : s.io n = s := by
  unfold DSt.io
  split
  · have : s.num.work.1 = s.num := by rw [work_calm _ h]
    rw [this]
  · rfl
theorem calm_ioE {s : DSt} (h : Calm s) {n : Int} (h0 : 0 ≤ n) (h1 : n < s.n) : s.ioE n = 0 := by rw [ioE_in h0 h1, work_calm _ h]
theorem calm_wrE {s : DSt} (h : Calm s) {n : Int} (h0 : 0 ≤ n) (h1 : n < s.n) {len : Nat} (hl : len = 64) : s.wrE n len = 0 := by unfold DSt.wrE; rw [if_pos hl, calm_ioE h h0 h1]
theorem calm_wr {s : DSt} (h : Calm s) {n : Int} (h0 : 0 ≤ n) (h1 : n < s.n) {l : List Int} (hl : l.length = 64) : s.wr n l = s.put n.toNat l := by
  unfold DSt.wr; rw [if_pos hl, if_pos (calm_ioE h h0 h1), calm_io h]
theorem get_put {s : DSt} (n : Nat) (l : List Int) : (s.put n l).get n = l := by
  unfold DSt.get DSt.put; simp
theorem get_put_ne {s : DSt} (n : Nat) (l : List Int) (k : Int) (h : k.toNat ≠ n) : (s.put n l).get k = s.get k := by
  unfold DSt.get DSt.put; simp [h]
theorem ioE_out {s : DSt} {n : Int} (h : ¬ (0 ≤ n ∧ n < s.n)) : s.ioE n = 1 := if_neg h
theorem set_arr (n i : Nat) (v : Int) : (Array.replicate n (Value.int .u8 0)).setIfInBounds i (.int .u8 v) = (((List.replicate n (0 : Int)).set i v).map (Value.int .u8)).toArray := by
  rw [← List.toArray_replicate, List.setIfInBounds_toArray, List.map_set, List.map_replicate]
theorem calm_new (n : Nat) : Calm (DSt.new n) := rfl
theorem calm_put {s : DSt} (h : Calm s) (n : Nat) (l : List Int) : Calm (s.put n l) := h
def True1 (w0 : World) (e : Ending) (w' : World) : Prop := e = .returned (.bool true) ∧ Chg NoB w0 w'
theorem True1.row {W : World} {e : Ending} {w' : World} (h : True1 W e w') : e = .returned (.bool true) ∧ Below W.heap.size W w' :=
  ⟨h.1, h.2.below (Nat.le_refl _) (fun i hh => hh.elim)⟩
/-- a buffer of 64 bytes, made -/
theorem make64 (w : World) : (Instr.makeSlice 31 (.int .i64 64) (.int .i64 64)).run Try.prog w = .ok (.slice (some ⟨w.heap.size, 0, none⟩) 64 64) (w.alloc (.cells (Array.replicate 64 (.int .u8 0)) 5)) :=
  run_make1 (P := Try.prog) 31 5 (.int .u8 0) 1 Try.underlying31 info8 rfl 64 (by decide) (by decide) (by decide) w
theorem zero_bytes (n : Nat) : ∀ x ∈ List.replicate n (0 : Int), 0 ≤ x ∧ x ≤ 255 := fun x hx => by rw [List.eq_of_mem_replicate hx]; decide
theorem set_bytes {l : List Int} (h : ∀ x ∈ l, 0 ≤ x ∧ x ≤ 255) (i : Nat) (v : Int) (hv : 0 ≤ v ∧ v ≤ 255) : ∀ x ∈ l.set i v, 0 ≤ x ∧ x ≤ 255 := fun x hx => by
  rcases List.mem_or_eq_of_mem_set hx with hx | rfl
  · exact h x hx
  · exact hv
section
variable {w0 w : World} {d : Nat} {ρ : Nat → Nat} {s : DSt}
def FlAns (w0 w : World) (d : Nat) (ρ : Nat → Nat) (E : Int) (s : DSt) (e : Ending) (w' : World) : Prop :=
  e = .returned (.int .i64 E) ∧ Chg (Own ρ) w w' ∧ ∃ ρ', DL w0 w' d ρ' s ∧ ∀ i, ρ' i ≠ 0 ↔ ρ i ≠ 0
theorem l_flush (h : DL w0 w d ρ s) : Calls Try.prog 36 #[.pointer (some ⟨d, 0, none⟩)] w (FlAns w0 w d ρ s.flE s.fl) :=
  (flush_any d ρ s w h.at_).mono fun _ _ hp => by
    obtain ⟨ρ', h1, h2, h3, h4⟩ := hp
    exact ⟨h1, h3, ρ', h.go h2 h3 (fun i hi => .inl ((h4 i).mp hi)), h4⟩
theorem l_fuse (a : Int) (ha : a ≤ 9223372036854775807) (h : DL w0 w d ρ s) :
    Calls Try.prog 27 #[.pointer (some ⟨d, 0, none⟩), .int .i64 a] w fun e w' => e = .returned (.tuple #[]) ∧ DL w0 w' d ρ (s.fusing a) ∧ Chg (Own ρ) w w' :=
  (fuse_any d ρ s a w ha h.at_).mono fun _ _ hp => ⟨hp.1, h.go hp.2.1 hp.2.2 (fun i hi => .inl hi), hp.2.2⟩
def CrAns (w0 w : World) (d : Nat) (ρ : Nat → Nat) (s : DSt) (e : Ending) (w' : World) : Prop :=
  e = .returned (.tuple #[]) ∧ Chg (Own ρ) w w' ∧ ∃ ρ', DL w0 w' d ρ' s ∧ ∀ i, ρ' i ≠ 0 ↔ ρ i ≠ 0
theorem l_crash (keep torn : Int) (k0 : 0 ≤ keep) (k1 : keep < 18446744073709551616) (h : DL w0 w d ρ s) : Calls Try.prog 28 #[.pointer (some ⟨d, 0, none⟩), .int .u64 keep, .int .i64 torn] w (CrAns w0 w d ρ (s.crash keep torn)) :=
  (crash_any d ρ s keep torn w k0 k1 h.at_).mono fun _ _ hp => by
    obtain ⟨ρ', h1, h2, h3, h4⟩ := hp
    exact ⟨h1, h3, ρ', h.go h2 h3 (fun i hi => .inl ((h4 i).mp hi)), h4⟩
theorem l_sectors (h : DL w0 w d ρ s) : Calls Try.prog 38 #[.pointer (some ⟨d, 0, none⟩)] w fun e w' => e = .returned (.int .i64 s.n) ∧ w = w' := sectors_any d ρ s w h.at_
end
end Go.Proofs.Ytmonkoclbcahiaa.Disk
