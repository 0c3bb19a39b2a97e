/- Chapter 5: SlotNone. -/
import Derived.Test.YtmonkoclbcahiaaSlotF
namespace Go.Proofs.Ytmonkoclbcahiaa.Slot
open Go.RowKit Go.Proofs.Ytmonkoclbcahiaa.Hp Go.Proofs.Ytmonkoclbcahiaa.By Go.Proofs.Ytmonkoclbcahiaa.Disk Go.Proofs.Ytmonkoclbcahiaa.Word Go.Proofs.Ytmonkoclbcahiaa.WordP Go.Proofs.Ytmonkoclbcahiaa.Log
set_option linter.unusedVariables false
set_option linter.unusedSimpArgs false
/-- one work fails, behind k others -/
def FailsAt (s : DSt) (k : Nat) : Prop := s.num = ⟨(k : Int), 1, -1, false⟩ ∧ s.n = 192
theorem fa_work0 : (⟨((0 : Nat) : Int), 1, -1, false⟩ : DN).work = (⟨0, 0, -1, false⟩, 6) := rfl
theorem fa_work (k : Nat) : (⟨((k + 1 : Nat) : Int), 1, -1, false⟩ : DN).work = (⟨(k : Int), 1, -1, false⟩, 0) := by
  unfold DN.work
  rw [if_neg (by simp)]
  have e : ((k + 1 : Nat) : Int) - 1 = (k : Int) := by omega
  simp only [show ¬ ((0 : Int) < -1) by decide, if_false, show (0 : Int) < ((k + 1 : Nat) : Int) by omega, if_true, e]
theorem fa_wr0 {s : DSt} (h : FailsAt s 0) (n : Nat) (hn : n < 192) : s.wrE (n : Int) 64 = 6 := by
  unfold DSt.wrE DSt.ioE
  rw [if_pos rfl, if_pos ⟨by omega, by rw [h.2]; omega⟩, h.1, fa_work0]
theorem fa_wr {s : DSt} {k : Nat} (h : FailsAt s (k + 1)) (n : Nat) (hn : n < 192) (S : List Int) (hS : S.length = 64) : s.wrE (n : Int) 64 = 0 ∧ FailsAt (s.wr (n : Int) S) k := by
  have e1 : s.ioE (n : Int) = 0 := by unfold DSt.ioE; rw [if_pos ⟨by omega, by rw [h.2]; omega⟩, h.1, fa_work]
  have e2 : s.io (n : Int) = { s with num := ⟨(k : Int), 1, -1, false⟩ } := by rw [io_in (by omega) (by rw [h.2]; omega), h.1, fa_work]
  refine ⟨by unfold DSt.wrE; rw [if_pos rfl]; exact e1, ?_⟩
  unfold DSt.wr
  rw [if_pos hS, if_pos e1, e2]
  exact ⟨rfl, h.2⟩
theorem fa_fl0 {s : DSt} (h : FailsAt s 0) : s.flE = 6 := by unfold DSt.flE; rw [h.1, fa_work0]
theorem fa_fl {s : DSt} {k : Nat} (h : FailsAt s (k + 1)) : s.flE = 0 ∧ FailsAt s.fl k := by
  have e : s.flE = 0 := by unfold DSt.flE; rw [h.1, fa_work]
  refine ⟨e, ?_⟩
  unfold DSt.fl
  have e2 : s.num.work.2 = 0 := e
  rw [if_pos e2, h.1, fa_work]
  exact ⟨rfl, h.2⟩
theorem fa_wrN {s : DSt} {a : Nat} {pg : Nat → List Int} (hp : ∀ k, (pg k).length = 64) : ∀ (j k : Nat), a + 1 + j ≤ 192 → FailsAt s (k + j) → (∀ i, i < j → (wrN s a pg i).wrE ((a : Int) + 1 + i) 64 = 0) ∧ FailsAt (wrN s a pg j) k
  | 0, k, _, h => ⟨fun i hi => by omega, h⟩
  | j + 1, k, ha, h => by
    obtain ⟨h1, h2⟩ := fa_wrN (a := a) hp j (k + 1) (by omega) (by rw [show k + 1 + j = k + (j + 1) by omega]; exact h)
    obtain ⟨h3, h4⟩ := fa_wr h2 (a + 1 + j) (by omega) (pg j) (hp j)
    have e : ((a + 1 + j : Nat) : Int) = (a : Int) + 1 + j := by omega
    rw [e] at h3 h4
    refine ⟨fun i hi => ?_, h4⟩
    by_cases c : i < j
    · exact h1 i c
    · obtain rfl : i = j := by omega
      exact h3
theorem saves_fail {s s' : DSt} {gen E : Int} {l : List Int} {k : Nat} (h : FailsAt s k) (hk : k ≤ 2) (hl : l.length ≤ 960) (hS : Saves s gen l E s') : E = 6 := by
  have hp := pagesN_le hl
  have ha := aN_rng gen
  by_cases c : k < pagesN l
  · obtain ⟨w1, w2⟩ := fa_wrN (s := s) (a := aN gen) (page_len l) k 0 (by omega) (by rw [Nat.zero_add]; exact h)
    have w3 := fa_wr0 w2 (aN gen + 1 + k) (by omega)
    rw [show ((aN gen + 1 + k : Nat) : Int) = (aN gen : Int) + 1 + k by omega] at w3
    rw [← aN_eq] at w1 w3
    rcases hS with ⟨k', hk', h1, h2, h3, _⟩ | ⟨h1, _⟩
    · rcases Nat.lt_trichotomy k' k with q | q | q
      · exact absurd (by rw [← h2]; exact w1 k' q) h3
      · subst q; rw [← h2]; exact w3
      · have := h1 k q; rw [w3] at this; cases this
    · have := h1 k c; rw [w3] at this; cases this
  · obtain ⟨w1, w2⟩ := fa_wrN (s := s) (a := aN gen) (page_len l) (pagesN l) (k - pagesN l) (by omega) (by rw [show k - pagesN l + pagesN l = k by omega]; exact h)
    rw [← aN_eq] at w1 w2
    rcases hS with ⟨k', hk', h1, h2, h3, _⟩ | ⟨_, hS⟩
    · exact absurd (by rw [← h2]; exact w1 k' hk') h3
    · generalize wrN s (slotAt gen) (page l) (pagesN l) = s1 at *
      obtain ⟨m, hm⟩ : ∃ m, m = k - pagesN l := ⟨_, rfl⟩
      rw [← hm] at w2
      have hm2 : m = 0 ∨ m = 1 ∨ m = 2 := by omega
      rcases hm2 with rfl | rfl | rfl
      · rcases hS with ⟨h1, _⟩ | ⟨h1, _⟩
        · rw [← h1]; exact fa_fl0 w2
        · rw [fa_fl0 w2] at h1; cases h1
      · obtain ⟨f1, f2⟩ := fa_fl (k := 0) w2
        rcases hS with ⟨h1, h2, _⟩ | ⟨_, h1, _⟩
        · exact absurd (by rw [← h1]; exact f1) h2
        · rw [h1]
          have := fa_wr0 f2 (aN gen) (by omega)
          rw [← aN_eq] at this
          unfold appE
          rw [headL_len, this]; rfl
      · obtain ⟨f1, f2⟩ := fa_fl (k := 1) w2
        rcases hS with ⟨h1, h2, _⟩ | ⟨_, h1, _⟩
        · exact absurd (by rw [← h1]; exact f1) h2
        · rw [h1]
          obtain ⟨a1, a2⟩ := fa_wr (k := 0) f2 (aN gen) (by omega) (headL gen l) (headL_len gen l)
          rw [← aN_eq] at a1 a2
          unfold appE
          rw [headL_len, a1, if_pos rfl]
          exact fa_fl0 a2
/-- the first read does not do it -/
theorem one_err {w0 w : World} {d : Nat} {ρ : Nat → Nat} {s : DSt} (h : DL w0 w d ρ s) (he : s.ioE 64 ≠ 0) :
    Calls Try.prog 41 #[.pointer (some ⟨d, 0, none⟩), .int .u32 0] w fun e w' => e = .returned (.tuple #[.int .u32 0, .slice none 0 0, .bool false, .int .i64 (s.ioE 64)]) ∧ DL w0 w' d ρ (s.io 64) ∧ Chg (Own ρ) w w' := by
  have hat := fun w => at_any 0 w (by omega) (by omega)
  have hr := l_read 64 h
  have heb : (s.ioE 64 != 0) = true := by rw [bne_iff_ne]; exact he
  clear h he
  generalize hEE : s.ioE 64 = E at *
  have HEE := Lib.hid hEE
  clear hEE
  go_enter Try.func41, Try.ntmps41
  go_wp2_with fail
  refine (hat _).mono ?_
  rintro e w1 ⟨rfl, rfl⟩
  go_wp2_with fail
  refine hr.mono ?_
  rintro e w2 ⟨v, rfl, h2, hC2, _, _⟩
  rw [HEE.out]
  have fin := And.intro h2 hC2
  clear hr h2 hC2
  go_wp2_with fail
  (try simp only [Exit.inBlock, Exit.then])
  refine bodyPost_ret (results_tmp4 rfl _ _ _) rfl ?_
  exact ⟨rfl, fin⟩
theorem load_err {w0 w : World} {d : Nat} {ρ : Nat → Nat} {s : DSt} (h : DL w0 w d ρ s) (he : s.ioE 64 ≠ 0) :
    Calls Try.prog 16 #[.pointer (some ⟨d, 0, none⟩)] w fun e w' => e = .returned (.tuple #[.int .u32 0, .slice none 0 0, .int .i64 (s.ioE 64)]) ∧ DL w0 w' d ρ (s.io 64) ∧ Chg (Own ρ) w w' := by
  have ho := one_err h he
  have heb : (s.ioE 64 != 0) = true := by rw [bne_iff_ne]; exact he
  clear h he
  generalize s.ioE 64 = E at *
  go_enter Try.func16, Try.ntmps16
  go_wp2_with fail
  go_loopw [2, 3, 12] (fun g v i wr => g = .int .u32 0 ∧ v = .slice none 0 0 ∧ i = .int .u32 0 ∧ wr = w) (fun g v i wr => (2 - intOf i).toNat)
  case atStart => exact ⟨rfl, rfl, rfl, rfl⟩
  case round =>
    obtain ⟨rfl, rfl, rfl, rfl⟩ := hrel
    go_wp2_with fail
    refine ho.mono ?_
    rintro e w2 ⟨rfl, h2, hC2⟩
    have fin := And.intro h2 hC2
    clear ho h2 hC2
    go_wp2_with fail
    go_ret3
    exact ⟨rfl, fin⟩
theorem stp_dl {w0 w : World} {d : Nat} {ρ0 : Nat → Nat} {wr : World} {s' : DSt} (h : Stp w0 w d ρ0 wr s') : ∃ ρ, DL w0 wr d ρ s' := ⟨_, h.choose_spec.1⟩
set_option maxRecDepth 100000 in
set_option maxHeartbeats 2000000 in
theorem slotNone (A : Option Addr) (c : Nat) (l : List Int) (n : Int) (w : World) (n0 : 0 ≤ n) (n1 : n ≤ 255) (hr : Rd w .u8 A l) (hcap : l.length ≤ c) (hb : Bytes l) : Calls Try.prog 5 #[.slice A l.length c, .int .u8 n] w (True1 w) := by
  by_cases hl : 900 < l.length
  · clear hr hb
    go_enter Try.func5, Try.ntmps5
    go_wp2_with fail
    refine (answers5 _).mono ?_
    rintro e w1 ⟨rfl, hC⟩
    have fin : True1 w (.returned (.bool true)) w1 := ⟨rfl, hC⟩
    clear hC
    go_wp2_with fail
    go_ret
    exact fin
  · have hl9 : l.length ≤ 900 := by omega
    obtain ⟨k, hk, hnk⟩ : ∃ k : Nat, k ≤ 2 ∧ n % 3 = (k : Int) := ⟨(n % 3).toNat, by omega, by omega⟩
    have HR := Lib.hid (And.intro hr hb)
    clear hr hb hl
    have sn := fun w => save_bad none 1 A l.length c w (by omega) (.inl rfl)
    go_enter Try.func5, Try.ntmps5
    go_wp2_with fail
    refine (load_nil _).mono ?_
    rintro e w1 ⟨rfl, rfl⟩
    go_wp2_with fail
    refine (l_new 192 (by omega) (by omega) w).mono ?_
    rintro e w1 ⟨d, ρ, rfl, h⟩
    have hf := l_fail 0 1 (by omega) (by omega) h
    clear h
    go_wp2_with fail
    refine hf.mono ?_
    rintro e w2 ⟨rfl, h2, _⟩
    have e1 : ((DSt.new 192).failing 0 1).ioE 64 = 6 := rfl
    have e2 : (((DSt.new 192).failing 0 1).io 64).failing k 1 = { n := 192, sure := fun _ => List.replicate 64 0, loose := fun _ => none, num := ⟨(k : Int), 1, -1, false⟩ } := by
      have : ((DSt.new 192).failing 0 1).io 64 = { n := 192, sure := fun _ => List.replicate 64 0, loose := fun _ => none, num := ⟨0, 0, -1, false⟩ } := rfl
      rw [this]
      unfold DSt.failing
      rw [if_neg (by omega)]; rfl
    have hle := load_err h2 (by rw [e1]; decide)
    rw [e1] at hle
    have E2 := Lib.hid e2
    clear hf h2 e1 e2
    go_wp2_with fail
    refine hle.mono ?_
    rintro e w3 ⟨rfl, h3, _⟩
    have hf := l_fail (k : Int) 1 (by omega) (by omega) h3
    rw [E2.out] at hf
    clear hle h3 E2
    go_wp2_with fail
    rw [hnk]
    refine hf.mono ?_
    rintro e w4 ⟨rfl, h4, _⟩
    have hsv := save_any 1 A c l h4 (by decide) (by decide) (by omega) (HR.out.1.chg h4.ch (fun _ _ _ x => x)) (fun hp ad e x => by
      have q1 := HR.out.1.lt hp ad e
      have q2 := h4.nw _ x
      omega) hcap HR.out.2
    have hf2 : FailsAt { n := 192, sure := fun _ => List.replicate 64 0, loose := fun _ => none, num := ⟨(k : Int), 1, -1, false⟩ } k := ⟨rfl, rfl⟩
    have HF := Lib.hid hf2
    clear hf h4 hf2 hnk
    go_wp2_with fail
    refine hsv.mono ?_
    rintro e w5 ⟨E, s', rfl, hS, hst⟩
    have hE := saves_fail HF.out hk (by omega) hS
    subst hE
    have hch : Chg NoB w w5 := hst.choose_spec.1.ch
    clear hsv hS hst HF HR
    go_wp2_with (first | ((with_reducible refine (answers5 _).mono ?_); rintro e w6 ⟨rfl, hC6⟩) | ((with_reducible refine (sn _).mono ?_); rintro e w7 ⟨rfl, rfl⟩) | go_in)
    go_ret
    exact ⟨rfl, hch.trans hC6 (fun _ _ x => x)⟩
theorem u8b4 {n : Int} (h : (Lit.int .u8 n).wf = true) : 0 ≤ n ∧ n ≤ 255 := by
  simp only [Lit.wf, Bool.and_eq_true, decide_eq_true_eq] at h
  have e1 : IntKind.u8.min = 0 := rfl
  have e2 : IntKind.u8.max = 255 := rfl
  omega
theorem slotNone_row (a0 : Option Addr) (len0 cap0 : Nat) (z0 : List Int) (a1 : Int) (W : World) (w0 : IsRow .u8 W a0 len0 cap0 z0) (y0 : len0 * 1 ≤ 140737488351232) (w1 : (Lit.int .u8 a1).wf = true) :
    Calls Try.prog 5 #[.slice a0 len0 cap0, .int .u8 a1] W fun e w' => e = .returned (.bool true) ∧ Below W.heap.size W w' := by
  obtain ⟨h1, h2, h3, h4⟩ := rd_of_row w0 (by omega)
  have := slotNone a0 cap0 (z0.take len0) a1 W (u8b4 w1).1 (u8b4 w1).2 h1 (by rw [h2]; exact h3) (fun x hx => by have := u8b4 (h4 x hx); omega)
  rw [h2] at this
  exact this.mono fun _ _ h => h.row
end Go.Proofs.Ytmonkoclbcahiaa.Slot
