/- Chapter 3: what a program that does nothing does not answer; DiskNone. -/
import Derived.Test.YtfjldlhboaeemaaCalm
namespace Go.Proofs.Ytfjldlhboaeemaa.Disk
open Go.RowKit Go.Proofs.Ytfjldlhboaeemaa.Hp Go.Proofs.Ytfjldlhboaeemaa.By
set_option linter.unusedVariables false
set_option linter.unusedSimpArgs false
theorem crash_one (l : List Int) (hl : l.length = 64) : (((DSt.new 2).put 1 l).crash 1 64).get 1 = l ∧ Calm (((DSt.new 2).put 1 l).crash 1 64) ∧ (((DSt.new 2).put 1 l).crash 1 64).n = 2 := by
  have hL : ((DSt.new 2).put 1 l).looseL = [1] := by
    unfold DSt.looseL DSt.put DSt.new
    simp [List.range_succ]
  refine ⟨?_, rfl, rfl⟩
  unfold DSt.get DSt.crash
  rw [hL]
  have e : crashAt 1 [1] [(1 : Int)].length = (fun _ => false, some 1) := by
    show crashAt 1 [1] (0 + 1) = _
    rw [crash_kept (by decide)]
    rfl
  rw [e]
  have c : cut64 64 = 64 := by decide
  have g : (((DSt.new 2).put 1 l).loose 1) = some l := by unfold DSt.put; simp
  have c1 : (DSt.new 2).sure 1 = List.replicate 64 0 := rfl
  show (none : Option (List Int)).getD _ = l
  simp only [Option.getD_none, show (1 : Int).toNat = 1 from rfl, Bool.false_eq_true, if_false, if_true, g, Option.getD_some, c]
  rw [List.take_of_length_le (by omega), List.drop_of_length_le (show (((DSt.new 2).put 1 l).sure 1).length ≤ 64 by rw [show ((DSt.new 2).put 1 l).sure 1 = List.replicate 64 0 from rfl]; simp), List.append_nil]
set_option maxRecDepth 100000 in
set_option maxHeartbeats 2000000 in
theorem answers3 (w0 : World) : Calls Try.prog 21 #[] w0 (True1 w0) := by
  have hmk := make64
  go_enter Try.func21, Try.ntmps21
  go_wp2_with fail
  refine (l_new 2 (by omega) (by omega) w0).mono ?_
  rintro e w1 ⟨d, ρ, rfl, h⟩
  have hY : (Array.replicate 64 (Value.int .u8 0)).setIfInBounds 0 (.int .u8 7) = (((List.replicate 64 (0 : Int)).set 0 7).map (Value.int .u8)).toArray := set_arr 64 0 7
  have B1 : Buf (w1.alloc (.cells ((Array.replicate 64 (Value.int .u8 0)).setIfInBounds 0 (.int .u8 7)) 5)) w1.heap.size ((List.replicate 64 (0 : Int)).set 0 7) := by
    unfold Buf; rw [← hY]; exact bnew w1 _
  have hz : ρ w1.heap.size = 0 := by
    obtain ⟨_, _, _, _, _, _, _, hp⟩ := h.at_
    exact hp.rz _ (Nat.le_refl _)
  have h2 := h.keep ((Chg.refl NoB w1).alloc (.cells ((Array.replicate 64 (.int .u8 0)).setIfInBounds 0 (.int .u8 7)) 5))
  clear hY
  have hll : ((List.replicate 64 (0 : Int)).set 0 7).length = 64 := by simp
  have hby := set_bytes (zero_bytes 64) 0 7 (by decide)
  have hg0 : ((List.replicate 64 (0 : Int)).set 0 7).getD 0 0 = 7 := by decide
  have H := Lib.hid (And.intro h2 (And.intro B1 (And.intro hz (And.intro hby (And.intro hll hg0)))))
  have hsz : (0 : Nat) < (Array.replicate 64 (Value.int .u8 0)).size := by rw [Array.size_replicate]; omega
  have hz0 : (Array.replicate 64 (Value.int .u8 0))[0]? = some (.int .u8 0) := by rw [Array.getElem?_replicate, if_pos (by omega)]
  clear h h2 B1 hby hll hg0 hz
  generalize (List.replicate 64 (0 : Int)).set 0 7 = l at H
  generalize Array.replicate 64 (Value.int .u8 0) = Z at *
  go_wp2_with fail
  have hw := l_write 1 (some ⟨w1.heap.size, 0, none⟩) 64 l H.out.1 H.out.2.2.2.1 (H.out.2.1.rd (by rw [H.out.2.2.2.2.1]; omega)) (fun _ ad e x => x (by have := Option.some.inj e; subst this; exact H.out.2.2.1))
  rw [H.out.2.2.2.2.1] at hw
  refine hw.mono ?_
  rintro e w3 ⟨rfl, hc, ρ', h3, hr⟩
  have e2 : (DSt.new 2).wrE 1 l.length = 0 := calm_wrE (calm_new 2) (by decide) (by decide) H.out.2.2.2.2.1
  have e3 : (DSt.new 2).wr 1 l = (DSt.new 2).put 1 l := calm_wr (calm_new 2) (by decide) (by decide) H.out.2.2.2.2.1
  rw [e3] at h3
  rw [e2]
  clear hw hmk e2 e3
  have hcr := l_crash 1 64 (by decide) (by decide) h3
  go_wp2_with fail
  refine hcr.mono ?_
  rintro e w4 ⟨rfl, _, ρ2, h4, _⟩
  obtain ⟨cg, cc, cn⟩ := crash_one l H.out.2.2.2.2.1
  have hE : (((DSt.new 2).put 1 l).crash 1 64).ioE 1 = 0 := calm_ioE cc (by decide) (by rw [cn]; decide)
  have hread := l_read 1 h4
  clear hcr h3
  go_wp2_with fail
  refine hread.mono ?_
  rintro e w5 ⟨v, rfl, h5, _, h6, _⟩
  obtain ⟨g, hrow, _⟩ := h6 hE
  rw [hE]
  rw [cg] at hrow
  obtain ⟨cp, C, hv, hcp, hb, hC, hcell⟩ := hrow.2.2
  have hc9 : w5.cell? ⟨g, 0, none⟩ = some (.int .u8 7) := by rw [bcell hb, hcell 0 (by omega), H.out.2.2.2.2.2]
  rw [calm_io cc] at h5
  have hsec := l_sectors h5
  rw [cn] at hsec
  have fin : True1 w0 (.returned (.bool true)) w5 := ⟨rfl, h5.ch⟩
  rw [hv]
  have FI := Lib.hid fin
  clear hread h4 h5 hE hrow hb hcell hv cg cc cn hc hr H fin
  go_wp2_with (first | (with_reducible refine hsec.mono ?_; rintro e w6 ⟨rfl, rfl⟩) | go_in)
  go_ret
  exact FI.out
set_option maxRecDepth 100000 in
set_option maxHeartbeats 2000000 in
theorem diskNone (n keep : Int) (A : Option Addr) (len c : Nat) (w : World) : Calls Try.prog 8 #[.int .i64 n, .slice A len c, .int .u64 keep] w (True1 w) := by
  go_enter Try.func8, Try.ntmps8
  go_wp2_with fail
  refine (fail_nil _ _ _).mono ?_
  rintro e w1 ⟨rfl, rfl⟩
  go_wp2_with fail
  refine (fuse_nil _ _).mono ?_
  rintro e w1 ⟨rfl, rfl⟩
  go_wp2_with fail
  refine (crash_nil _ _ _).mono ?_
  rintro e w1 ⟨rfl, rfl⟩
  go_wp2_with fail
  refine (read_bad none _ _ (.inr rfl)).mono ?_
  rintro e w1 ⟨rfl, rfl⟩
  go_wp2_with fail
  refine (answers3 _).mono ?_
  rintro e w1 ⟨rfl, hC⟩
  have fin : True1 w (.returned (.bool true)) w1 := ⟨rfl, hC⟩
  clear hC
  have h1 := write_bad none n (.slice A len c) w1 (.inr rfl)
  have h2 := flush_nil w1
  have h3 := loose_nil w1
  have h4 := sectors_nil w1
  go_wp2_with (first
    | (with_reducible refine h1.mono ?_; rintro e w6 ⟨rfl, rfl⟩)
    | (with_reducible refine h2.mono ?_; rintro e w6 ⟨rfl, rfl⟩)
    | (with_reducible refine h3.mono ?_; rintro e w6 ⟨rfl, rfl⟩)
    | (with_reducible refine h4.mono ?_; rintro e w6 ⟨rfl, rfl⟩) | go_in)
  go_ret
  exact fin
theorem diskNone_row (a0 : Int) (a1 : Option Addr) (len1 cap1 : Nat) (z1 : List Int) (a2 : Int) (W : World) (_ : (Lit.int .i64 a0).wf = true) (w1 : IsRow .u8 W a1 len1 cap1 z1) (y1 : len1 * 1 ≤ 140737488351232) (_ : (Lit.int .u64 a2).wf = true) :
    Calls Try.prog 8 #[.int .i64 a0, .slice a1 len1 cap1, .int .u64 a2] W fun e w' => e = .returned (.bool true) ∧ Below W.heap.size W w' :=
  (diskNone a0 a2 a1 len1 cap1 W).mono fun _ _ h => h.row
end Go.Proofs.Ytfjldlhboaeemaa.Disk
