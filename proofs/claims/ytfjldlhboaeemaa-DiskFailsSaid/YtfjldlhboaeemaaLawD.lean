/- Chapter 3: DiskFuse. -/
import Derived.Test.YtfjldlhboaeemaaLawC
namespace Go.Proofs.Ytfjldlhboaeemaa.Disk
open Go.RowKit Go.Proofs.Ytfjldlhboaeemaa.Hp Go.Proofs.Ytfjldlhboaeemaa.By
set_option linter.unusedVariables false
set_option linter.unusedSimpArgs false
/-- the fuse of a disk on which nothing else is to happen, i flushes behind: k, then none -/
def Fu (s : DSt) (k i : Nat) : Prop := s.num.first = 0 ∧ s.num.fail = 0 ∧ s.n = 1 ∧ ((i ≤ k ∧ s.num.down = false ∧ s.num.fuse = ((k - i : Nat) : Int)) ∨ (k < i ∧ s.num.down = true))
theorem fl_num (s : DSt) : s.fl.num = s.num.work.1 ∧ s.fl.n = s.n := by
  unfold DSt.fl
  split
  · exact ⟨rfl, rfl⟩
  · exact ⟨rfl, rfl⟩
theorem fu_next {s : DSt} {k i : Nat} (h : Fu s k i) : Fu s.fl k (i + 1) ∧ s.flE = if i < k then 0 else 9 := by
  obtain ⟨a, b, c, d⟩ := h
  obtain ⟨e1, e2⟩ := fl_num s
  unfold Fu DSt.flE
  rw [e1, e2]
  obtain ⟨n, su, lo, ⟨fi, fa, fu, dn⟩⟩ := s
  simp only at a b c d
  subst a b
  rcases d with ⟨d1, rfl, rfl⟩ | ⟨d1, rfl⟩
  · by_cases hk : i < k
    · have : ¬ (((k - i : Nat) : Int) = 0) := by omega
      unfold DN.work
      simp only [Bool.false_eq_true, false_or, if_neg this]
      rw [if_pos (show (0 : Int) < ((k - i : Nat) : Int) by omega)]
      simp only [Int.lt_irrefl, if_false, if_pos hk]
      exact ⟨⟨by trivial, by trivial, c, .inl ⟨by omega, by trivial, by omega⟩⟩, by trivial⟩
    · have : ((k - i : Nat) : Int) = 0 := by omega
      unfold DN.work
      simp only [this, or_true, if_true, if_neg hk]
      exact ⟨⟨by trivial, by trivial, c, .inr ⟨by omega, by trivial⟩⟩, by trivial⟩
  · unfold DN.work
    have hk : ¬ i < k := by omega
    simp only [true_or, if_true, if_neg hk]
    exact ⟨⟨by trivial, by trivial, c, .inr ⟨by omega, by trivial⟩⟩, by trivial⟩
theorem fu_new (k : Nat) : Fu ((DSt.new 1).fusing k) k 0 := by
  refine ⟨rfl, rfl, rfl, .inl ⟨by omega, rfl, ?_⟩⟩
  show (if (k : Int) < 0 then 0 else (k : Int)) = _
  rw [if_neg (by omega)]; omega
theorem fu_out {s : DSt} {k i : Nat} (h : Fu s k i) : s.ioE 5 = 1 ∧ s.io 5 = s := by
  have : ¬ ((0 : Int) ≤ 5 ∧ (5 : Int) < s.n) := by rw [h.2.2.1]; decide
  exact ⟨if_neg this, if_neg this⟩
theorem crash_calm (s : DSt) (a b : Int) : Calm (s.crash a b) := rfl
def FuB (w0 : World) (d k : Nat) (i : Value) (wr : World) : Prop := ∃ (n : Nat) (ρ : Nat → Nat) (s : DSt), n ≤ 25 ∧ i = .int .i64 n ∧ DL w0 wr d ρ s ∧ Fu s k n
set_option maxRecDepth 100000 in
set_option maxHeartbeats 2000000 in
theorem diskFuse (n : Int) (w : World) (n0 : 0 ≤ n) (n1 : n ≤ 255) : Calls Try.prog 7 #[.int .u8 n] w (True1 w) := by
  obtain ⟨k, hk, hnk⟩ : ∃ k : Nat, k < 20 ∧ n % 20 = (k : Int) := ⟨(n % 20).toNat, by omega, by omega⟩
  go_enter Try.func7, Try.ntmps7
  go_wp2_with fail
  refine (l_new 1 (by omega) (by omega) w).mono ?_
  rintro e w1 ⟨d, ρ, rfl, h⟩
  have hf := l_fuse k (by omega) h
  go_wp2_with fail
  rw [hnk]
  refine hf.mono ?_
  rintro e w2 ⟨rfl, h2, _⟩
  have hB : FuB w d k (.int .i64 0) w2 := ⟨0, ρ, _, by omega, rfl, h2, fu_new k⟩
  clear hf h h2
  go_wp2_with fail
  go_loopw [5] (fun i wr => FuB w d k i wr) (fun i wr => (25 - intOf i).toNat)
  case atStart => exact hB
  case round =>
    clear hB
    obtain ⟨i, ρ1, s, hi, rfl, hD, hF⟩ := hrel
    by_cases hlt : i < 25
    · have hfl := l_flush hD
      obtain ⟨f1, f2⟩ := fu_next hF
      rw [f2] at hfl
      have H := Lib.hid f1
      clear hD hF f1 f2
      by_cases c : i < k
      · rw [if_pos c] at hfl
        go_wp2_with fail
        refine hfl.mono ?_
        rintro e w3 ⟨rfl, _, ρ2, h3, _⟩
        have fin : FuB w d k (.int .i64 ((i : Int) + 1)) w3 := ⟨i + 1, ρ2, _, by omega, rfl, h3, H.out⟩
        clear hfl h3 H
        go_wp2_with fail
        exact ⟨fin, by simp [intOf]; omega⟩
      · rw [if_neg c] at hfl
        go_wp2_with fail
        refine hfl.mono ?_
        rintro e w3 ⟨rfl, _, ρ2, h3, _⟩
        have fin : FuB w d k (.int .i64 ((i : Int) + 1)) w3 := ⟨i + 1, ρ2, _, by omega, rfl, h3, H.out⟩
        clear hfl h3 H
        go_wp2_with fail
        exact ⟨fin, by simp [intOf]; omega⟩
    · have hrd := l_read 5 hD
      obtain ⟨o1, o2⟩ := fu_out hF
      go_wp2_with fail
      refine hrd.mono ?_
      rintro e w3 ⟨v, rfl, h3, _, _, h4⟩
      have hv := h4 (by rw [o1]; decide)
      subst hv
      rw [o1]
      rw [o2] at h3
      have hcr := l_crash 0 0 (by decide) (by decide) h3
      clear hrd h3 h4 hD hF
      go_wp2_with fail
      refine hcr.mono ?_
      rintro e w4 ⟨rfl, _, ρ2, h4, _⟩
      clear hcr
      have H := Lib.hid h4
      clear h4
      go_wp2_with fail
      refine (answers3 _).mono ?_
      rintro e w5 ⟨rfl, hC⟩
      have h5 := H.out.keep hC
      have hfl := l_flush h5
      rw [show (s.crash 0 0).flE = 0 from by unfold DSt.flE; rw [work_calm _ (crash_calm s 0 0)]] at hfl
      clear H hC h5
      go_wp2_with (first | ((with_reducible refine hfl.mono ?_); rintro e w6 ⟨rfl, _, ρ3, h6, _⟩) | go_in)
      go_ret
      exact ⟨rfl, h6.ch⟩
theorem u8b3 {n : Int} (h : (Lit.int .u8 n).wf = true) : 0 ≤ n ∧ n ≤ 255 := by
  simp only [Lit.wf, Bool.and_eq_true, decide_eq_true_eq] at h
  have e1 : IntKind.u8.min = 0 := rfl
  have e2 : IntKind.u8.max = 255 := rfl
  omega
theorem diskFuse_row (a0 : Int) (W : World) (w0 : (Lit.int .u8 a0).wf = true) :
    Calls Try.prog 7 #[.int .u8 a0] W fun e w' => e = .returned (.bool true) ∧ Below W.heap.size W w' :=
  (diskFuse a0 W (u8b3 w0).1 (u8b3 w0).2).mono fun _ _ h => h.row
/-- so much is done first, then so much is not: i reads behind -/
def Fa (s : DSt) (a b i : Nat) : Prop := s.num.fuse = -1 ∧ s.num.down = false ∧ s.n = 1 ∧ s.num.first = ((a - i : Nat) : Int) ∧ s.num.fail = ((b - (i - a) : Nat) : Int)
theorem fa_next {s : DSt} {a b i : Nat} (h : Fa s a b i) : Fa (s.io 0) a b (i + 1) ∧ s.ioE 0 = if a ≤ i ∧ i < a + b then 6 else 0 := by
  obtain ⟨h1, h2, h3, h4, h5⟩ := h
  have hn : (0 : Int) ≤ 0 ∧ (0 : Int) < s.n := by rw [h3]; decide
  unfold DSt.io DSt.ioE
  rw [if_pos hn, if_pos hn]
  obtain ⟨n, su, lo, ⟨fi, fa, fu, dn⟩⟩ := s
  simp only at h1 h2 h3 h4 h5
  subst h1 h2 h3 h4 h5
  unfold Fa DN.work
  simp only [Bool.false_eq_true, false_or, show ¬ ((-1 : Int) = 0) by decide, if_false, show ¬ ((0 : Int) < -1) by decide]
  by_cases c1 : i < a
  · rw [if_pos (show (0 : Int) < ((a - i : Nat) : Int) by omega), if_neg (show ¬ (a ≤ i ∧ i < a + b) by omega)]
    exact ⟨⟨by trivial, by trivial, by trivial, by show ((a - i : Nat) : Int) - 1 = _; omega, by show ((b - (i - a) : Nat) : Int) = _; omega⟩, by trivial⟩
  · rw [if_neg (show ¬ (0 : Int) < ((a - i : Nat) : Int) by omega)]
    by_cases c2 : i < a + b
    · rw [if_pos (show (0 : Int) < ((b - (i - a) : Nat) : Int) by omega), if_pos (show (a ≤ i ∧ i < a + b) by omega)]
      exact ⟨⟨by trivial, by trivial, by trivial, by show ((a - i : Nat) : Int) = _; omega, by show ((b - (i - a) : Nat) : Int) - 1 = _; omega⟩, by trivial⟩
    · rw [if_neg (show ¬ (0 : Int) < ((b - (i - a) : Nat) : Int) by omega), if_neg (show ¬ (a ≤ i ∧ i < a + b) by omega)]
      exact ⟨⟨by trivial, by trivial, by trivial, by show ((a - i : Nat) : Int) = _; omega, by show ((b - (i - a) : Nat) : Int) = _; omega⟩, by trivial⟩
theorem fa_new (a b : Nat) : Fa ((DSt.new 1).failing a b) a b 0 := by
  refine ⟨rfl, rfl, rfl, ?_, ?_⟩
  · show (if (a : Int) < 0 then 0 else (a : Int)) = _
    rw [if_neg (by omega)]; omega
  · show (if (b : Int) < 0 then 0 else (b : Int)) = _
    rw [if_neg (by omega)]; omega
def FaB (w0 : World) (d a b : Nat) (i : Value) (wr : World) : Prop := ∃ (n : Nat) (ρ : Nat → Nat) (s : DSt), n ≤ 45 ∧ i = .int .i64 n ∧ DL w0 wr d ρ s ∧ Fa s a b n
set_option maxRecDepth 100000 in
set_option maxHeartbeats 2000000 in
theorem diskFails (n m : Int) (w : World) (n0 : 0 ≤ n) (n1 : n ≤ 255) (m0 : 0 ≤ m) (m1 : m ≤ 255) : Calls Try.prog 6 #[.int .u8 n, .int .u8 m] w (True1 w) := by
  obtain ⟨a, ha, hna⟩ : ∃ k : Nat, k < 20 ∧ n % 20 = (k : Int) := ⟨(n % 20).toNat, by omega, by omega⟩
  obtain ⟨b, hb, hmb⟩ : ∃ k : Nat, k < 20 ∧ m % 20 = (k : Int) := ⟨(m % 20).toNat, by omega, by omega⟩
  go_enter Try.func6, Try.ntmps6
  go_wp2_with fail
  refine (l_new 1 (by omega) (by omega) w).mono ?_
  rintro e w1 ⟨d, ρ, rfl, h⟩
  have hf := l_fail a b (by omega) (by omega) h
  go_wp2_with fail
  rw [hna, hmb]
  refine hf.mono ?_
  rintro e w2 ⟨rfl, h2, _⟩
  have hB : FaB w d a b (.int .i64 0) w2 := ⟨0, ρ, _, by omega, rfl, h2, fa_new a b⟩
  clear hf h h2
  go_wp2_with fail
  go_loopw [8] (fun i wr => FaB w d a b i wr) (fun i wr => (45 - intOf i).toNat)
  case atStart => exact hB
  case round =>
    clear hB
    obtain ⟨i, ρ1, s, hi, rfl, hD, hF⟩ := hrel
    by_cases hlt : i < 45
    · have hrd := l_read 0 hD
      obtain ⟨f1, f2⟩ := fa_next hF
      have H := Lib.hid f1
      clear hD hF f1
      by_cases c : a ≤ i ∧ i < a + b
      · obtain ⟨c1, c2⟩ := c
        rw [if_pos ⟨c1, c2⟩] at f2
        go_wp2_with fail
        refine hrd.mono ?_
        rintro e w3 ⟨v, rfl, h3, _, _, h4⟩
        have hv := h4 (by rw [f2]; decide)
        subst hv
        rw [f2]
        have fin : FaB w d a b (.int .i64 ((i : Int) + 1)) w3 := ⟨i + 1, ρ1, _, by omega, rfl, h3, H.out⟩
        clear hrd h3 H h4
        go_wp2_with fail
        exact ⟨fin, by simp [intOf]; omega⟩
      · rw [if_neg c] at f2
        have cs : i < a ∨ a + b ≤ i := by omega
        rcases cs with c | c
        all_goals
          go_wp2_with fail
          refine hrd.mono ?_
          rintro e w3 ⟨v, rfl, h3, _, h4, _⟩
          obtain ⟨g, hrow, _⟩ := h4 f2
          obtain ⟨cp, C, hv, _⟩ := hrow.2.2
          subst hv
          rw [f2]
          have fin : FaB w d a b (.int .i64 ((i : Int) + 1)) w3 := ⟨i + 1, ρ1, _, by omega, rfl, h3, H.out⟩
          clear hrd h3 H h4 hrow
          go_wp2_with fail
          exact ⟨fin, by simp [intOf]; omega⟩
    · have H := Lib.hid hD.ch
      clear hD hF
      go_wp2_with fail
      refine (answers3 _).mono ?_
      rintro e w5 ⟨rfl, hC⟩
      have fin : True1 w (.returned (.bool true)) w5 := ⟨rfl, H.out.trans hC (fun _ _ x => x)⟩
      clear H hC
      go_wp2_with fail
      go_ret
      exact fin
theorem diskFails_row (a0 a1 : Int) (W : World) (w0 : (Lit.int .u8 a0).wf = true) (w1 : (Lit.int .u8 a1).wf = true) :
    Calls Try.prog 6 #[.int .u8 a0, .int .u8 a1] W fun e w' => e = .returned (.bool true) ∧ Below W.heap.size W w' :=
  (diskFails a0 a1 W (u8b3 w0).1 (u8b3 w0).2 (u8b3 w1).1 (u8b3 w1).2).mono fun _ _ h => h.row
end Go.Proofs.Ytfjldlhboaeemaa.Disk
