/- A disk that a call made, and buffers beside it. -/
import Derived.Test.YtmonkoclbcahiaaDiskD
namespace Go.Proofs.Ytmonkoclbcahiaa.Disk
open Go.RowKit Go.Proofs.Ytmonkoclbcahiaa.Hp Go.Proofs.Ytmonkoclbcahiaa.By
set_option linter.unusedVariables false
set_option linter.unusedSimpArgs false
structure DL (w0 w : World) (d : Nat) (ρ : Nat → Nat) (s : DSt) : Prop where
  at_ : DiskAt w d ρ s
  ch : Chg NoB w0 w
  nw : ∀ i, ρ i ≠ 0 → w0.heap.size ≤ i
theorem DL.keep {w0 w w' : World} {d : Nat} {ρ : Nat → Nat} {s : DSt} (h : DL w0 w d ρ s) (hc : Chg NoB w w') : DL w0 w' d ρ s := ⟨h.at_.keep hc, h.ch.trans hc (fun _ _ x => x), h.nw⟩
theorem DL.go {w0 w w' : World} {d : Nat} {ρ ρ' : Nat → Nat} {s s' : DSt} (h : DL w0 w d ρ s) (h1 : DiskAt w' d ρ' s') (hc : Chg (Own ρ) w w') (hg : ∀ i, ρ' i ≠ 0 → ρ i ≠ 0 ∨ w.heap.size ≤ i) : DL w0 w' d ρ' s' :=
  ⟨h1, h.ch.trans hc (fun i hi hh => by have := h.nw i hh; omega), fun i hi => (hg i hi).elim (h.nw i) (fun x => Nat.le_trans h.ch.size x)⟩
/-- a buffer beside the disk changes -/
theorem DL.side {w0 w w' : World} {d : Nat} {ρ : Nat → Nat} {s : DSt} (h : DL w0 w d ρ s) {g : Nat} (hc : Chg (· = g) w w') (hg : ρ g = 0) (hw : w0.heap.size ≤ g) : DL w0 w' d ρ s :=
  ⟨h.at_.chg hc (fun i hi x => hi (by rw [show i = g from x]; exact hg)), h.ch.trans hc (fun i hi hh => by have := (show i = g from hh); omega), h.nw⟩
/-- a block of bytes -/
def Buf (w : World) (g : Nat) (l : List Int) : Prop := Blk w g (l.map (Value.int .u8)).toArray 5
theorem Buf.chg {S : Nat → Prop} {w w' : World} {g : Nat} {l : List Int} (h : Buf w g l) (hc : Chg S w w') (h1 : ¬ S g) : Buf w' g l := hc.blk (show Blk w g _ _ from h) h1
theorem Buf.lt {w : World} {g : Nat} {l : List Int} (h : Buf w g l) : g < w.heap.size := blt (show Blk w g _ _ from h)
theorem Buf.cell {w : World} {g : Nat} {l : List Int} (h : Buf w g l) (i : Nat) (hi : i < l.length) : w.cell? ⟨g, i, none⟩ = some (.int .u8 (l.getD i 0)) := by
  rw [bcell (show Blk w g _ _ from h)]; simp [hi]
theorem Buf.frz {w : World} {g : Nat} {l : List Int} (h : Buf w g l) (i : Nat) : w.frozen? ⟨g, i, none⟩ = false := bfroz (show Blk w g _ _ from h) i
theorem Buf.set {w : World} {g : Nat} {l : List Int} (h : Buf w g l) (i : Nat) (v : Int) : Buf (w.setCell ⟨g, i, none⟩ (.int .u8 v)) g (l.set i v) := by
  have := bset (show Blk w g _ _ from h) i (.int .u8 v)
  unfold Buf
  rw [show ((l.set i v).map (Value.int .u8)).toArray = (l.map (Value.int .u8)).toArray.setIfInBounds i (.int .u8 v) from by simp [List.map_set]]
  exact this
theorem Buf.rd {w : World} {g : Nat} {l : List Int} (h : Buf w g l) (hl : l.length ≤ 140737488351232) : Rd w .u8 (some ⟨g, 0, none⟩) l :=
  ⟨hl, fun _ => ⟨_, rfl, fun j hj => by rw [add0]; exact h.cell j hj⟩⟩
theorem Buf.new (w : World) (n g : Nat) (hg : g = w.heap.size) : Buf (w.alloc (.cells (Array.replicate n (.int .u8 0)) 5)) g (List.replicate n 0) := by
  unfold Buf
  rw [show ((List.replicate n (0 : Int)).map (Value.int .u8)).toArray = Array.replicate n (.int .u8 0) from by simp]
  exact bnew' hg _
section
variable {w0 w : World} {d : Nat} {ρ : Nat → Nat} {s : DSt}
/-- what Read leaves -/
def RdAns (w0 w : World) (d : Nat) (ρ : Nat → Nat) (s : DSt) (n : Int) (e : Ending) (w' : World) : Prop :=
  ∃ v, e = .returned (.tuple #[v, .int .i64 (s.ioE n)]) ∧ DL w0 w' d ρ (s.io n) ∧ Chg (Own ρ) w w' ∧ (s.ioE n = 0 → ∃ g, Row w' v g (s.get n) ∧ w.heap.size ≤ g) ∧ (s.ioE n ≠ 0 → v = .slice none 0 0)
theorem DL.read {n : Int} {e : Ending} {w' : World} (h : DL w0 w d ρ s) (hp : ReadPost w d ρ s n e w') : RdAns w0 w d ρ s n e w' := by
  obtain ⟨v, he, h1, h2, h3, h4⟩ := hp
  exact ⟨v, he, h.go h1 h2 (fun i hi => .inl hi), h2, h3, h4⟩
def WrAns (w0 w : World) (d : Nat) (ρ : Nat → Nat) (s : DSt) (n : Int) (l : List Int) (e : Ending) (w' : World) : Prop :=
  e = .returned (.int .i64 (s.wrE n l.length)) ∧ Chg (Own ρ) w w' ∧ ∃ ρ', DL w0 w' d ρ' (s.wr n l) ∧ ∀ i, i < w.heap.size → ρ i = 0 → ρ' i = 0
theorem DL.write {n : Int} {l : List Int} {e : Ending} {w' : World} (h : DL w0 w d ρ s) (hp : WritePost w d ρ s n l e w') : WrAns w0 w d ρ s n l e w' := by
  obtain ⟨ρ', he, h1, h2, h3⟩ := hp
  refine ⟨he, h2, ρ', h.go h1 h2 h3, fun i hi h0 => ?_⟩
  by_cases c : ρ' i = 0
  · exact c
  · rcases h3 i c with x | x
    · exact absurd h0 x
    · omega
theorem l_read (n : Int) (h : DL w0 w d ρ s) : Calls Try.prog 30 #[.pointer (some ⟨d, 0, none⟩), .int .i64 n] w (RdAns w0 w d ρ s n) :=
  (read_any d ρ s n w h.at_).mono fun _ _ hp => h.read hp
theorem l_write (n : Int) (A : Option Addr) (c : Nat) (l : List Int) (h : DL w0 w d ρ s) (hb : ∀ x ∈ l, 0 ≤ x ∧ x ≤ 255) (hr : Rd w .u8 A l) (ho : 0 < l.length → Off A (Own ρ)) :
    Calls Try.prog 15 #[.pointer (some ⟨d, 0, none⟩), .int .i64 n, .slice A l.length c] w (WrAns w0 w d ρ s n l) :=
  (write_any d ρ s n A c l w h.at_ hb hr ho).mono fun _ _ hp => h.write hp
theorem l_fail (a b : Int) (ha : a ≤ 9223372036854775807) (hb : b ≤ 9223372036854775807) (h : DL w0 w d ρ s) :
    Calls Try.prog 20 #[.pointer (some ⟨d, 0, none⟩), .int .i64 a, .int .i64 b] w fun e w' => e = .returned (.tuple #[]) ∧ DL w0 w' d ρ (s.failing a b) ∧ Chg (Own ρ) w w' :=
  (fail_any d ρ s a b w ha hb h.at_).mono fun _ _ hp => ⟨hp.1, h.go hp.2.1 hp.2.2 (fun i hi => .inl hi), hp.2.2⟩
end
def NewAns (n : Nat) (w0 : World) (e : Ending) (w' : World) : Prop := ∃ d ρ, e = .returned (.pointer (some ⟨d, 0, none⟩)) ∧ DL w0 w' d ρ (DSt.new n)
theorem l_new (n : Nat) (h1 : 1 ≤ n) (h2 : n ≤ 4096) (w0 : World) : Calls Try.prog 13 #[.int .i64 n] w0 (NewAns n w0) := by
  refine (dnew_any n h1 h2 w0).mono ?_
  rintro e w1 ⟨d, ρ, rfl, h1, h2, h3⟩
  exact ⟨d, ρ, rfl, h1, h2, h3⟩
theorem ioE_in {s : DSt} {n : Int} (h0 : 0 ≤ n) (h1 : n < s.n) : s.ioE n = s.num.work.2 := if_pos ⟨h0, h1⟩
theorem io_in {s : DSt} {n : Int} (h0 : 0 ≤ n) (h1 : n < s.n) : s.io n = { s with num := s.num.work.1 } := if_pos ⟨h0, h1⟩
/-- nothing is to fail -/
theorem work_calm (n : DN) (h : n = ⟨0, 0, -1, false⟩) : n.work = (n, 0) := by subst h; rfl
theorem new_work (n : Nat) : (DSt.new n).num.work = (⟨0, 0, -1, false⟩, 0) := rfl
end Go.Proofs.Ytmonkoclbcahiaa.Disk
