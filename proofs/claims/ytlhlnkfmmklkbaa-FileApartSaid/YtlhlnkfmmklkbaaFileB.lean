/- Files: what a program that does nothing does not answer; FileFails. -/
import Derived.Test.YtlhlnkfmmklkbaaFile
import Derived.Test.YtlhlnkfmmklkbaaDiskE
namespace Go.Proofs.Ytlhlnkfmmklkbaa.File
open Go.RowKit Go.Proofs.Ytlhlnkfmmklkbaa.Hp Go.Proofs.Ytlhlnkfmmklkbaa.By Go.Proofs.Ytlhlnkfmmklkbaa.Disk
set_option linter.unusedVariables false
set_option linter.unusedSimpArgs false
def Calm (s : DSt) : Prop := s.num = ⟨0, 0, -1, false⟩
theorem calm_io {s : DSt} (h : Calm s) (n : Int) : s.io n = s := by
  unfold DSt.io
  split
  · have : s.num.work.1 = s.num := by rw [work_calm _ h]
    rw [this]
  · rfl
theorem calm_ioE {s : DSt} (h : Calm s) {n : Int} (h0 : 0 ≤ n) (h1 : n < s.n) : s.ioE n = 0 := by rw [ioE_in h0 h1, work_calm _ h]
theorem calm_wrE {s : DSt} (h : Calm s) {n : Int} (h0 : 0 ≤ n) (h1 : n < s.n) {len : Nat} (hl : len = 64) : s.wrE n len = 0 := by unfold DSt.wrE; rw [if_pos hl, calm_ioE h h0 h1]
theorem calm_wr {s : DSt} (h : Calm s) {n : Int} (h0 : 0 ≤ n) (h1 : n < s.n) {l : List Int} (hl : l.length = 64) : s.wr n l = s.put n.toNat l := by
  unfold DSt.wr; rw [if_pos hl, if_pos (calm_ioE h h0 h1), calm_io h]
theorem get_put {s : DSt} (n : Nat) (l : List Int) : (s.put n l).get n = l := by
  unfold DSt.get DSt.put; simp
theorem get_put_ne {s : DSt} (n : Nat) (l : List Int) (k : Int) (h : k.toNat ≠ n) : (s.put n l).get k = s.get k := by
  unfold DSt.get DSt.put; simp [h]
theorem ioE_out {s : DSt} {n : Int} (h : ¬ (0 ≤ n ∧ n < s.n)) : s.ioE n = 1 := if_neg h
theorem page_in {f n : Int} (h : (0 ≤ f ∧ f < 4) ∧ (0 ≤ n ∧ n < 16)) : pageN f n = 96 + f * 16 + n := if_pos h
theorem slot_in {n : Int} (h : 0 ≤ n ∧ n < 32) : slotN n = 160 + n := if_pos h
theorem set_arr (n i : Nat) (v : Int) : (Array.replicate n (Value.int .u8 0)).setIfInBounds i (.int .u8 v) = (((List.replicate n (0 : Int)).set i v).map (Value.int .u8)).toArray := by
  rw [← List.toArray_replicate, List.setIfInBounds_toArray, List.map_set, List.map_replicate]
theorem calm_new (n : Nat) : Calm (DSt.new n) := rfl
theorem calm_put {s : DSt} (h : Calm s) (n : Nat) (l : List Int) : Calm (s.put n l) := h
def True1 (w0 : World) (e : Ending) (w' : World) : Prop := e = .returned (.bool true) ∧ Chg NoB w0 w'
theorem True1.row {W : World} {e : Ending} {w' : World} (h : True1 W e w') : e = .returned (.bool true) ∧ Below W.heap.size W w' :=
  ⟨h.1, h.2.below (Nat.le_refl _) (fun i hh => hh.elim)⟩
/-- a buffer of 64 bytes, made -/
theorem make64 (w : World) : (Instr.makeSlice 22 (.int .i64 64) (.int .i64 64)).run Try.prog w = .ok (.slice (some ⟨w.heap.size, 0, none⟩) 64 64) (w.alloc (.cells (Array.replicate 64 (.int .u8 0)) 5)) :=
  run_make1 (P := Try.prog) 22 5 (.int .u8 0) 1 Try.underlying22 info8 rfl 64 (by decide) (by decide) (by decide) w
theorem zero_bytes (n : Nat) : ∀ x ∈ List.replicate n (0 : Int), 0 ≤ x ∧ x ≤ 255 := fun x hx => by rw [List.eq_of_mem_replicate hx]; decide
theorem set_bytes {l : List Int} (h : ∀ x ∈ l, 0 ≤ x ∧ x ≤ 255) (i : Nat) (v : Int) (hv : 0 ≤ v ∧ v ≤ 255) : ∀ x ∈ l.set i v, 0 ≤ x ∧ x ≤ 255 := fun x hx => by
  rcases List.mem_or_eq_of_mem_set hx with hx | rfl
  · exact h x hx
  · exact hv
set_option maxRecDepth 100000 in
set_option maxHeartbeats 2000000 in
theorem answers_any (w0 : World) : Calls Try.prog 14 #[] w0 (True1 w0) := by
  have hmk := make64
  go_enter Try.func14, Try.ntmps14
  go_wp2_with fail
  refine (l_new 192 (by omega) (by omega) w0).mono ?_
  rintro e w1 ⟨d, ρ, rfl, h⟩
  have hY : (Array.replicate 64 (Value.int .u8 0)).setIfInBounds 0 (.int .u8 9) = (((List.replicate 64 (0 : Int)).set 0 9).map (Value.int .u8)).toArray := set_arr 64 0 9
  have B1 : Buf (w1.alloc (.cells ((Array.replicate 64 (Value.int .u8 0)).setIfInBounds 0 (.int .u8 9)) 5)) w1.heap.size ((List.replicate 64 (0 : Int)).set 0 9) := by
    unfold Buf; rw [← hY]; exact bnew w1 _
  have hz : ρ w1.heap.size = 0 := by
    obtain ⟨_, _, _, _, _, _, _, hp⟩ := h.at_
    exact hp.rz _ (Nat.le_refl _)
  have h2 := h.keep ((Chg.refl NoB w1).alloc (.cells ((Array.replicate 64 (.int .u8 0)).setIfInBounds 0 (.int .u8 9)) 5))
  clear hY
  have hll : ((List.replicate 64 (0 : Int)).set 0 9).length = 64 := by simp
  have hby := set_bytes (zero_bytes 64) 0 9 (by decide)
  have hg0 : ((List.replicate 64 (0 : Int)).set 0 9).getD 0 0 = 9 := by decide
  have H := Lib.hid (And.intro h2 (And.intro B1 (And.intro hz (And.intro hby (And.intro hll hg0)))))
  have hsz : (0 : Nat) < (Array.replicate 64 (Value.int .u8 0)).size := by rw [Array.size_replicate]; omega
  have hz0 : (Array.replicate 64 (Value.int .u8 0))[0]? = some (.int .u8 0) := by rw [Array.getElem?_replicate, if_pos (by omega)]
  clear h h2 B1 hby hll hg0 hz
  generalize (List.replicate 64 (0 : Int)).set 0 9 = l at H
  generalize Array.replicate 64 (Value.int .u8 0) = Z at *
  go_wp2_with fail
  have hw := fwrite_any d ρ (DSt.new 192) (some ⟨w1.heap.size, 0, none⟩) 64 l _ H.out.1.at_ H.out.2.2.2.1 (H.out.2.1.rd (by rw [H.out.2.2.2.2.1]; omega)) (fun _ ad e x => x (by have := Option.some.inj e; subst this; exact H.out.2.2.1)) 1 2
  rw [H.out.2.2.2.2.1] at hw
  refine hw.mono ?_
  intro e w3 hp
  obtain ⟨rfl, hc, ρ', h3, hr⟩ := H.out.1.write hp
  have e1 : pageN 1 2 = 114 := by decide
  have e2 : (DSt.new 192).wrE 114 l.length = 0 := calm_wrE (calm_new 192) (by decide) (by decide) H.out.2.2.2.2.1
  have e3 : (DSt.new 192).wr 114 l = (DSt.new 192).put 114 l := calm_wr (calm_new 192) (by decide) (by decide) H.out.2.2.2.2.1
  rw [e1, e3] at h3
  rw [e1, e2]
  clear hw hp hmk e1 e2 e3
  have hread := l_read 114 h3
  have hE : ((DSt.new 192).put 114 l).ioE 114 = 0 := calm_ioE (calm_put (calm_new 192) 114 l) (by decide) (show (114 : Int) < ((192 : Nat) : Int) by decide)
  go_wp2_with fail
  refine hread.mono ?_
  rintro e w4 ⟨v, rfl, h4, _, h5, _⟩
  obtain ⟨g, hrow, _⟩ := h5 hE
  rw [hE]
  have hget : ((DSt.new 192).put 114 l).get 114 = l := get_put 114 l
  rw [hget] at hrow
  obtain ⟨cp, C, hv, hcp, hb, hC, hcell⟩ := hrow.2.2
  have hc9 : w4.cell? ⟨g, 0, none⟩ = some (.int .u8 9) := by rw [bcell hb, hcell 0 (by omega), H.out.2.2.2.2.2]
  have fin : True1 w0 (.returned (.bool true)) w4 := ⟨rfl, h4.ch⟩
  rw [hv]
  clear hread h3 h4 h5 hE hrow hb hcell hv hget hc hr H
  go_wp2_with fail
  go_ret
  exact fin
end Go.Proofs.Ytlhlnkfmmklkbaa.File
