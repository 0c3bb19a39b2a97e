/- RunsWhole: what it does. -/
import Derived.Test.YtilameppdnmgdaaRunsC
namespace Go.Proofs.Ytilameppdnmgdaa.Runs
open Go.RowKit Go.Proofs.Ytilameppdnmgdaa.Hp
set_option linter.unusedVariables false
set_option linter.unusedSimpArgs false
def Lo (k j : Nat) : List Int := List.replicate j 1 ++ List.replicate (k - j) 0
theorem Lo_len (k j : Nat) (h : j ≤ k) : (Lo k j).length = k := by simp [Lo]; omega
theorem Lo_step (k j : Nat) (h : j < k) : putL 1 (Lo k j) [(j : Int)] = Lo k (j + 1) := by
  have hl := Lo_len k j (by omega)
  show put1 1 (Lo k j) j = _
  unfold put1
  rw [if_pos (by rw [hl]; omega), show ((j : Nat) : Int).toNat = j from by omega]
  apply List.ext_getElem
  · rw [List.length_set, hl, Lo_len k (j + 1) (by omega)]
  · intro i h1 h2
    simp only [Lo, List.getElem_set, List.getElem_append, List.length_replicate, List.getElem_replicate]
    by_cases c : j = i
    · subst c; simp
    · rw [if_neg c]
      by_cases d : i < j
      · rw [dif_pos d, dif_pos (by omega)]
      · rw [dif_neg d, dif_neg (by omega)]
def Lg (k g : Nat) : List Int := (List.replicate k (1 : Int)).set g 0
theorem Lg_get (k g i : Nat) (h : i < k) : (Lg k g).getD i 0 = if i = g then 0 else 1 := by
  unfold Lg
  rw [List.getD_eq_getElem?_getD, List.getElem?_set]
  by_cases c : g = i
  · subst c; simp [h]
  · rw [if_neg c, if_neg (fun e => c e.symm)]; simp [h]
theorem Lg_put (k g : Nat) (h : g < k) : putL 0 (Lo k k) [(g : Int)] = Lg k g := by
  show put1 0 (Lo k k) g = _
  unfold put1
  rw [if_pos (by rw [Lo_len k k (by omega)]; omega)]
  simp [Lo, Lg]
theorem Lg_len (k g : Nat) : (Lg k g).length = k := by simp [Lg]
theorem Lg_cnt (k g : Nat) (hg : g < k) (m : Nat) (hm : m ≤ k) : (idx (Lg k g) m).length = m - (if g < m then 1 else 0) := by
  induction m with
  | zero => simp [idx]
  | succ m ih =>
    have ih := ih (by omega)
    rw [idx_succ, List.length_append, ih, Lg_get k g m (by omega)]
    by_cases c : m = g
    · subst c; simp
    · rw [if_neg c]
      by_cases d : g < m
      · have d2 : g < m + 1 := by omega
        simp [d, d2]; omega
      · have d2 : ¬ g < m + 1 := by omega
        simp [d, d2]
theorem whole_a (k s f : Nat) (ok : Bool) (hs : 0 < s) (hk : s ≤ k) (h : RunSpec (Lo k k) s 0 k f ok) : f = 0 ∧ ok = true := by
  have hr : IsRun (Lo k k) s 0 k 0 := by
    refine ⟨by simp, by omega, by omega, by rw [Lo_len k k (by omega)]; omega, fun j hj => ?_⟩
    simp [Lo, show j < k from by omega]
  rcases h with ⟨rfl, _, hm⟩ | ⟨rfl, rfl, hn⟩
  · refine ⟨?_, rfl⟩
    by_cases c : f = 0
    · exact c
    · exact absurd hr (hm 0 (by omega))
  · exact absurd hr (hn 0)
theorem whole_b (k s g f : Nat) (fr : Int) (hfr : fr ≤ s) (hfr0 : 0 ≤ fr) (ok : Bool) (hs : 0 < s) (hg : g < s) (hk : 2 * s ≤ k) (h : RunSpec (Lg k g) s fr k f ok) : f = s ∧ ok = true := by
  have hr : IsRun (Lg k g) s fr k s := by
    refine ⟨Nat.mod_self s, by omega, by omega, by rw [Lg_len]; omega, fun j hj => ?_⟩
    rw [Lg_get k g _ (by omega), if_neg (by omega)]
  rcases h with ⟨rfl, h1, hm⟩ | ⟨rfl, rfl, hn⟩
  · refine ⟨?_, rfl⟩
    have h2 : ¬ s < f := fun hh => hm s hh hr
    by_cases c : f = s
    · exact c
    · exfalso
      have h3 : f < s := by omega
      have h4 := h1.1
      rw [Nat.mod_eq_of_lt h3] at h4
      subst h4
      have := h1.2.2.2.2 g hg
      rw [Lg_get k g _ (by omega), if_pos (by omega)] at this
      omega
  · exact absurd hr (hn s)
def WholeRel (w : World) (b bi k : Nat) (i : Value) (wr : World) : Prop := ∃ j : Nat, j ≤ k ∧ i = .int .i64 j ∧ RSet wr b bi (Lo k j) ∧ Chg NoB w wr
set_option maxHeartbeats 8000000 in
theorem runsWhole (n o gp : Int) (w : World) (n0 : 0 ≤ n) (n1 : n ≤ 255) (o0 : 0 ≤ o) (o1 : o ≤ 255) (g0 : 0 ≤ gp) (g1 : gp ≤ 255) : Calls Try.prog 7 #[.int .u8 n, .int .u8 o, .int .u8 gp] w (TrueB w) := by
  go_enter Try.func7, Try.ntmps7
  go_wp2_with fail
  generalize hK : n % 64 + 32 = K at *
  obtain ⟨k, rfl⟩ := Int.eq_ofNat_of_zero_le (show 0 ≤ K by omega)
  have hk1 : 32 ≤ k := by omega
  have hk2 : k ≤ 95 := by omega
  clear hK n0 n1
  refine (new_any k _).mono ?_
  rintro e w1 ⟨b, bi, rfl, hR, hbb, hbi, hC⟩
  rw [show clampF (k : Int) = k from by unfold clampF; rw [if_neg (by omega), if_neg (by omega)]; omega] at hR
  go_wp2_with fail
  go_loopw [9] (fun i wr => WholeRel w b bi k i wr) (fun i wr => k - (intOf i).toNat)
  case atStart => exact ⟨0, by omega, rfl, by simpa [Lo] using hR, hC⟩
  case round =>
    obtain ⟨j, hj, rfl, hRj, hCj⟩ := hrel
    clear hR hC
    by_cases hlt : j < k
    · go_wp2_with fail
      have hbl := blt hRj.xs
      refine (add_any b bi _ (some ⟨wr.heap.size, 0, none⟩) 1 [(j : Int)] _ (hRj.chg ((Chg.refl NoB wr).alloc _) (fun x => x) (fun x => x)) (rd_new wr [(j : Int)] (by simp) _ rfl) (fun _ => off_new _ _ (by omega))).mono ?_
      rintro e w2 ⟨rfl, hR2, hC2⟩
      rw [Lo_step k j hlt] at hR2
      have C2 : Chg NoB w w2 := (hCj.alloc _).trans hC2 (fun i hi hh => by subst hh; omega)
      clear hC2 hRj hCj
      go_wp2_with fail
      go_roundw
      case rel => exact ⟨j + 1, by omega, rfl, hR2, C2⟩
      case measure => simp [intOf]; omega
    · obtain rfl : j = k := by omega
      clear hlt
      obtain ⟨q, hq⟩ := Int.eq_ofNat_of_zero_le (show 0 ≤ o % 5 by omega)
      have hq5 : q < 5 := by omega
      have hp1 : 1 ≤ 2 ^ q := Nat.two_pow_pos q
      have hp2 : 2 ^ q ≤ 16 := Nat.pow_le_pow_right (n := 2) (by omega) (show q ≤ 4 by omega)
      go_wp2_with fail
      refine (run_yes b bi _ q (by omega) 0 j _ hRj).mono ?_
      rintro e w3 ⟨f, ok, rfl, hs, hC3⟩
      obtain ⟨rfl, rfl⟩ := whole_a j (2 ^ q) f ok hp1 (by omega) hs
      have hR3 := hRj.chg hC3 (fun x => x) (fun x => x)
      have C3 : Chg NoB w w3 := hCj.trans hC3 (fun i hi hh => hh)
      clear hs hC3 hRj hCj
      have hw : wrap64 (2 ^ q) = ((2 ^ q : Nat) : Int) := by
        have ho' : q = 0 ∨ q = 1 ∨ q = 2 ∨ q = 3 ∨ q = 4 := by omega
        rcases ho' with rfl | rfl | rfl | rfl | rfl <;> simp [wrap64]
      rw [hw]
      clear hw
      generalize hS : 2 ^ q = s at *
      have HS := Lib.hid hS
      clear hS
      obtain ⟨g, hg⟩ := Int.eq_ofNat_of_zero_le (show 0 ≤ gp % (s : Int) from Int.emod_nonneg _ (by omega))
      have hgs : g < s := by
        have := Int.emod_lt_of_pos gp (show (0 : Int) < s by omega)
        omega
      have hne : ((s : Int) == 0) = false := by apply beq_eq_false_iff_ne.mpr; omega
      go_wp2_with fail
      have hbl := blt hR3.xs
      refine (drop_any b bi _ (some ⟨w3.heap.size, 0, none⟩) 1 [(g : Int)] _ (hR3.chg ((Chg.refl NoB w3).alloc _) (fun x => x) (fun x => x)) (rd_new w3 [(g : Int)] (by simp) _ rfl) (fun _ => off_new _ _ (by omega))).mono ?_
      rintro e w4 ⟨rfl, hR4, hC4⟩
      rw [Lg_put j g (by omega)] at hR4
      have C4 : Chg NoB w w4 := (C3.alloc _).trans hC4 (fun i hi hh => by subst hh; omega)
      clear hC4 hR3 C3
      go_wp2_with fail
      refine (run_yes b bi _ q (by omega) 0 j _ hR4).mono ?_
      rintro e w5 ⟨f, ok, rfl, hs, hC5⟩
      rw [HS.out] at hs
      obtain ⟨rfl, rfl⟩ := whole_b j s g f 0 (by omega) (by omega) ok (by omega) hgs (by omega) hs
      have hR5 := hR4.chg hC5 (fun x => x) (fun x => x)
      have C5 : Chg NoB w w5 := C4.trans hC5 (fun i hi hh => hh)
      clear hs hC5 hR4 C4
      go_wp2_with fail
      refine (run_yes b bi _ q (by omega) 1 j _ hR5).mono ?_
      rintro e w6 ⟨f2, ok2, rfl, hs, hC6⟩
      rw [HS.out] at hs
      obtain ⟨e1, rfl⟩ := whole_b j f g f2 1 (by omega) (by omega) ok2 (by omega) hgs (by omega) hs
      subst e1
      have hR6 := hR5.chg hC6 (fun x => x) (fun x => x)
      have C6 : Chg NoB w w6 := C5.trans hC6 (fun i hi hh => hh)
      clear hs hC6 hR5 C5
      go_wp2_with fail
      refine (answers _).mono ?_
      rintro e w7 ⟨rfl, hC7⟩
      have hR7 := hR6.chg hC7 (fun x => x) (fun x => x)
      have C7 : Chg NoB w w7 := C6.trans hC7 (fun i hi hh => hh)
      clear hC7 hR6 C6
      have hd : decide (2 * (f2 : Int) ≤ (j : Int)) = true := by apply decide_eq_true; omega
      go_wp2_with fail
      refine (count_yes b bi _ _ hR7).mono ?_
      rintro e w8 ⟨rfl, hC8⟩
      have C8 : Chg NoB w w8 := C7.trans hC8 (fun i hi hh => hh)
      rw [Lg_len, Lg_cnt j g (by omega) j (Nat.le_refl _), if_pos (show g < j by omega)]
      clear hC8 hR7 C7
      have hcc : (((j - 1 : Nat) : Int) == (j : Int) - 1) = true := by apply beq_iff_eq.mpr; omega
      go_wp2_with fail
      go_ret
      exact ⟨rfl, C8⟩
theorem runsWhole_row (a0 a1 a2 : Int) (W : World) (w0 : (Lit.int .u8 a0).wf = true) (w1 : (Lit.int .u8 a1).wf = true) (w2 : (Lit.int .u8 a2).wf = true) :
    Calls Try.prog 7 #[.int .u8 a0, .int .u8 a1, .int .u8 a2] W fun e w' => e = .returned (.bool true) ∧ Below W.heap.size W w' := by
  have b0 := bounds_u8 w0
  have b1 := bounds_u8 w1
  have b2 := bounds_u8 w2
  exact (runsWhole a0 a1 a2 W b0.1 b0.2 b1.1 b1.2 b2.1 b2.2).mono fun _ _ h => h.below
end Go.Proofs.Ytilameppdnmgdaa.Runs
