/- The statements on memory of frames (second part): RamNone's row form; RamPoison. -/
import Derived.Test.YtilameppdnmgdaaRamD
namespace Go.Proofs.Ytilameppdnmgdaa.Ram
open Go.RowKit Go.Proofs.Ytilameppdnmgdaa.Hp
set_option linter.unusedVariables false
set_option linter.unusedSimpArgs false
theorem ramNone_row (a0 a1 : Int) (a2 : Option Addr) (len2 cap2 : Nat) (z2 : List Int) (W : World) (w0 : (Lit.int .i64 a0).wf = true) (w1 : (Lit.int .i64 a1).wf = true) (w2 : IsRow .u8 W a2 len2 cap2 z2) (y2 : len2 * 1 ≤ 140737488351232) :
    Calls Try.prog 10 #[.int .i64 a0, .int .i64 a1, .slice a2 len2 cap2] W fun e w' => e = .returned (.bool true) ∧ Below W.heap.size W w' :=
  (ramNone a0 a1 a2 len2 cap2 W).mono fun _ _ h => h.below
theorem upd_rd_other (B : Nat → Nat → Int) (f g a b m : Nat) (l : List Int) (h : g ≠ f) : rdL (upd B f a l) g b m = rdL B g b m := by
  unfold rdL
  apply List.map_congr_left
  intro j _
  unfold upd
  rw [if_neg (fun x => h x.1)]
theorem upd_rd_same (B : Nat → Nat → Int) (f : Nat) (l : List Int) : rdL (upd B f 0 l) f 0 l.length = l := by
  apply List.ext_getElem
  · rw [rdL_len]
  · intro i h1 h2
    simp [rdL, upd, h2]
theorem badN (n x : Nat) (h : x < n) : ¬ Bad n x 0 64 := by unfold Bad; omega
theorem badN2 (n x y : Nat) (h : x < n) (h' : y < n) : ¬ (Bad n x 0 64 ∨ Bad n y 0 64) := fun hh => hh.elim (badN n x h) (badN n y h')
set_option maxHeartbeats 8000000 in
theorem ramPoison (f g : Int) (A : Option Addr) (c : Nat) (l : List Int) (w : World) (f0 : 0 ≤ f) (f1 : f ≤ 255) (g0 : 0 ≤ g) (g1 : g ≤ 255) (hl : Rd w .u8 A l) :
    Calls Try.prog 11 #[.int .u8 f, .int .u8 g, .slice A l.length c] w (RetB true w) := by
  have hlen := hl.1
  by_cases c1 : 64 < l.length
  · have hb : decide ((64 : Int) < (l.length : Int)) = true := by apply decide_eq_true; omega
    go_enter Try.func11, Try.ntmps11
    go_wp2_with fail
    refine (answers _).mono ?_
    rintro e w1 ⟨rfl, hC⟩
    go_wp2_with fail
    go_ret
    exact ⟨rfl, hC⟩
  have hb : decide ((64 : Int) < (l.length : Int)) = false := by apply decide_eq_false; omega
  obtain ⟨x, hx⟩ := Int.eq_ofNat_of_zero_le (show 0 ≤ f % 8 by omega)
  obtain ⟨y, hy⟩ := Int.eq_ofNat_of_zero_le (show 0 ≤ g % 8 by omega)
  have hx8 : x < 8 := by omega
  have hy8 : y < 8 := by omega
  by_cases c2 : x = y
  · have hq : ((x : Int) == (y : Int)) = true := by apply beq_iff_eq.mpr; omega
    go_enter Try.func11, Try.ntmps11
    go_wp2_with fail
    refine (answers _).mono ?_
    rintro e w1 ⟨rfl, hC⟩
    go_wp2_with fail
    go_ret
    exact ⟨rfl, hC⟩
  have hq : ((x : Int) == (y : Int)) = false := by apply beq_eq_false_iff_ne.mpr; omega
  have hl64 : l.length ≤ 64 := by omega
  go_enter Try.func11, Try.ntmps11
  go_wp2_with fail
  refine (new_any 8 _).mono ?_
  rintro e w1 ⟨p, bl, rfl, hR1, hp, hbl, C1⟩
  rw [show clampF 8 = 8 from rfl] at hR1
  have hold : ∀ i, i = bl → w.heap.size ≤ i := fun i hi => by subst hi; exact hbl
  have L1 : Rd w1 .u8 A l := hl.chg C1 (fun _ _ _ x => x)
  go_wp2_with fail
  refine (write_ok p bl 8 _ _ x 0 A c l _ hR1 (by omega) (by omega) rfl L1).mono ?_
  rintro e w2 ⟨rfl, hR2, k2⟩
  have C2 : Chg NoB w w2 := C1.trans k2 (fun i hi hh => by subst hh; omega)
  have L2 : Rd w2 .u8 A l := hl.chg C2 (fun _ _ _ x => x)
  clear k2 C1 L1 hR1
  go_wp2_with fail
  refine (write_ok p bl 8 _ _ y 0 A c l _ hR2 (by omega) (by omega) rfl L2).mono ?_
  rintro e w3 ⟨rfl, hR3, k3⟩
  have C3 : Chg NoB w w3 := C2.trans k3 (fun i hi hh => by subst hh; omega)
  have L3 : Rd w3 .u8 A l := hl.chg C3 (fun _ _ _ x => x)
  clear k3 C2 L2 hR2
  have hrdy : rdL (upd (upd (fun _ _ => 0) x 0 l) y 0 l) y 0 l.length = l := upd_rd_same _ y l
  generalize upd (upd (fun _ _ => 0) x 0 l) y 0 l = B at *
  have HY := Lib.hid hrdy
  clear hrdy
  go_wp2_with fail
  refine (poison_yes p bl 8 B _ x _ hR3 (by omega) rfl).mono ?_
  rintro e w4 ⟨rfl, hR4, k4⟩
  have C4 : Chg NoB w w4 := C3.trans k4 (fun i hi hh => by subst hh; omega)
  have L4 : Rd w4 .u8 A l := hl.chg C4 (fun _ _ _ x => x)
  have dx : setD (fun _ => false) x x = true := by simp [setD]
  have dy : setD (fun _ => false) x y = false := by simp [setD]; omega
  generalize setD (fun _ => false) x = D at *
  clear k4 C3 L3 hR3
  go_wp2_with fail
  refine (poison_no p bl 8 B D x _ hR4 (.inr (.inr (by simpa using dx)))).mono ?_
  rintro e w5 ⟨rfl, rfl⟩
  go_wp2_with fail
  refine (read_lost p bl 8 B D x 0 1 _ hR4 (by omega) (by omega) dx).mono ?_
  rintro e w5 ⟨rfl, rfl⟩
  go_wp2_with fail
  refine (read_ok p bl 8 B D y 0 l.length _ hR4 (by omega) (by omega) dy).mono ?_
  rintro e w5 ⟨v, rfl, hown, k5⟩
  rw [HY.out] at hown
  have C5 : Chg NoB w w5 := C4.trans k5 (fun i hi hh => hh)
  have L5 : Rd w5 .u8 A l := hl.chg C5 (fun _ _ _ x => x)
  have hR5 := hR4.chg k5 (fun x => x) (fun x => x)
  obtain ⟨V, vc, rfl, -, -, hrd5, -⟩ := own_rd hown (by omega)
  clear k5 C4 L4 hR4 hown
  go_wp2_with fail
  refine (answers _).mono ?_
  rintro e w6 ⟨rfl, k6⟩
  have C6 : Chg NoB w w6 := C5.trans k6 (fun i hi hh => hh)
  have L6 : Rd w6 .u8 A l := hl.chg C6 (fun _ _ _ x => x)
  have hR6 := hR5.chg k6 (fun x => x) (fun x => x)
  have hrd6 := hrd5.chg k6 (fun _ _ _ x => x)
  clear k6 C5 L5 hR5 hrd5
  go_wp2_with fail
  refine (same_any V A vc c l l _ hrd6 L6).mono ?_
  rintro e w7 ⟨rfl, k7⟩
  have hdd : decide (l = l) = true := decide_eq_true rfl
  rw [hdd]
  have C7 : Chg NoB w w7 := C6.trans k7 (fun i hi hh => hh)
  have hR7 := hR6.chg k7 (fun x => x) (fun x => x)
  clear k7 C6 L6 hR6 hrd6 hdd
  go_wp2_with fail
  refine (write_lost p bl 8 B D x 0 A c l.length _ hR7 (by omega) (by omega) dx).mono ?_
  rintro e w8 ⟨rfl, hR8, k8⟩
  have C8 : Chg NoB w w8 := C7.trans k8 (fun i hi hh => by subst hh; omega)
  clear k8 C7 hR7
  go_wp2_with fail
  have ez : (7 : Int) = atE 8 D x 0 64 := by
    unfold atE; rw [if_neg (badN 8 x hx8), if_pos (by simpa using dx)]
  refine (zero_no p bl 8 B D x _ hR8 7 ez (by omega)).mono ?_
  rintro e w9 ⟨rfl, rfl⟩
  clear ez
  go_wp2_with fail
  have e1 : copyE 8 D x y = 7 := by
    unfold copyE; rw [if_neg (badN2 8 x y hx8 hy8), if_pos (by simpa using dx)]
  have h1 := copy_any p bl 8 B D x y w8 hR8
  unfold CopyB at h1
  rw [e1, if_neg (by omega)] at h1
  clear e1
  refine h1.mono ?_
  rintro e w10 ⟨rfl, hR10, k10⟩
  have C10 : Chg NoB w w10 := C8.trans k10 (fun i hi hh => by subst hh; omega)
  clear h1 k10 C8 hR8
  go_wp2_with fail
  have e2 : copyE 8 D y x = 7 := by
    unfold copyE; rw [if_neg (badN2 8 y x hy8 hx8), if_neg (by simp [dy]), if_pos (by simpa using dx)]
  have h2 := copy_any p bl 8 B D y x w10 hR10
  unfold CopyB at h2
  rw [e2, if_neg (by omega)] at h2
  clear e2
  refine h2.mono ?_
  rintro e w11 ⟨rfl, hR11, k11⟩
  have C11 : Chg NoB w w11 := C10.trans k11 (fun i hi hh => by subst hh; omega)
  clear h2 k11 C10 hR10
  go_wp2_with fail
  refine (bad_any p bl 8 B D x _ hR11).mono ?_
  rintro e w12 ⟨rfl, rfl⟩
  have e3 : isBad 8 D x = true := by unfold isBad; rw [decide_eq_true (by omega), decide_eq_true (by omega)]; simpa using dx
  rw [e3]
  clear e3
  go_wp2_with fail
  refine (bad_any p bl 8 B D y _ hR11).mono ?_
  rintro e w12 ⟨rfl, rfl⟩
  have e3 : isBad 8 D y = false := by unfold isBad; rw [decide_eq_true (by omega), decide_eq_true (by omega)]; simpa using dy
  rw [e3]
  clear e3
  go_wp2_with fail
  go_ret
  exact ⟨rfl, C11⟩
theorem ramPoison_row (a0 a1 : Int) (a2 : Option Addr) (len2 cap2 : Nat) (z2 : List Int) (W : World) (w0 : (Lit.int .u8 a0).wf = true) (w1 : (Lit.int .u8 a1).wf = true) (w2 : IsRow .u8 W a2 len2 cap2 z2) (y2 : len2 * 1 ≤ 140737488351232) :
    Calls Try.prog 11 #[.int .u8 a0, .int .u8 a1, .slice a2 len2 cap2] W fun e w' => e = .returned (.bool true) ∧ Below W.heap.size W w' := by
  obtain ⟨h1, h2, h3, h4⟩ := rd_of_row w2 (by omega)
  have b0 := bounds_u8 w0
  have b1 := bounds_u8 w1
  have := ramPoison a0 a1 a2 cap2 (z2.take len2) W b0.1 b0.2 b1.1 b1.2 h1
  rw [h2] at this
  exact this.mono fun _ _ h => h.below
end Go.Proofs.Ytilameppdnmgdaa.Ram
