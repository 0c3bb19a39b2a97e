/- Chapter 6: JournalBroken. -/
import Derived.Test.YtmonkoclbcahiaaJourC
import Derived.Test.YtmonkoclbcahiaaSlotH
import Derived.Test.YtmonkoclbcahiaaLogJ
namespace Go.Proofs.Ytmonkoclbcahiaa.Jour
open Go.RowKit Go.Proofs.Ytmonkoclbcahiaa.Hp Go.Proofs.Ytmonkoclbcahiaa.By Go.Proofs.Ytmonkoclbcahiaa.Disk Go.Proofs.Ytmonkoclbcahiaa.Word Go.Proofs.Ytmonkoclbcahiaa.WordP Go.Proofs.Ytmonkoclbcahiaa.Log Go.Proofs.Ytmonkoclbcahiaa.Slot
set_option linter.unusedVariables false
set_option linter.unusedSimpArgs false
theorem wr_get (s : DSt) (n : Int) (l : List Int) (j : Nat) (h : j ≠ n.toNat) : (s.wr n l).get (j : Int) = s.get (j : Int) := by
  have io : (s.io n).get (j : Int) = s.get (j : Int) := by unfold DSt.io; split <;> rfl
  unfold DSt.wr
  split
  · split
    · rw [get_put_ne _ _ _ (by omega)]; exact io
    · exact io
  · rfl
theorem fl_get (s : DSt) (j : Nat) : s.fl.get (j : Int) = s.get (j : Int) := by
  unfold DSt.fl
  split
  · rfl
  · rfl
theorem wrN_get (s : DSt) (a : Nat) (pg : Nat → List Int) (j : Nat) : ∀ k, ¬ (a + 1 ≤ j ∧ j < a + 1 + k) → (wrN s a pg k).get (j : Int) = s.get (j : Int)
  | 0, _ => rfl
  | k + 1, h => by
    show ((wrN s a pg k).wr ((a : Int) + 1 + k) (pg k)).get (j : Int) = _
    rw [wr_get _ _ _ _ (by omega)]
    exact wrN_get s a pg j k (by omega)
theorem saves_get {s s' : DSt} {gen E : Int} {l : List Int} (hl : l.length ≤ 960) (h : Saves s gen l E s') (j : Nat) (hj : ¬ (aN gen ≤ j ∧ j ≤ aN gen + 15)) : s'.get (j : Int) = s.get (j : Int) := by
  have hp := pagesN_le hl
  have ea := aN_eq gen
  have wg : ∀ k, k ≤ 15 → (wrN s (slotAt gen) (page l) k).get (j : Int) = s.get (j : Int) := fun k hk => by rw [ea]; exact wrN_get s (aN gen) (page l) j k (by omega)
  rcases h with ⟨k, hk, _, _, _, rfl⟩ | ⟨_, h⟩
  · exact wg _ (by omega)
  · rcases h with ⟨_, _, rfl⟩ | ⟨_, _, rfl⟩
    · rw [fl_get]; exact wg _ hp
    · unfold appS
      split
      · rw [fl_get, wr_get _ _ _ _ (by omega), fl_get]; exact wg _ hp
      · rw [wr_get _ _ _ _ (by omega), fl_get]; exact wg _ hp
theorem fa_wr0n {s : DSt} (h : FailsAt s 0) (n : Nat) (hn : n < 192) (S : List Int) (hS : S.length = 64) : Disk.Calm (s.wr (n : Int) S) := by
  have e1 : s.ioE (n : Int) = 6 := by unfold DSt.ioE; rw [if_pos ⟨by omega, by rw [h.2]; omega⟩, h.1, fa_work0]
  unfold DSt.wr
  rw [if_pos hS, if_neg (by rw [e1]; decide), io_in (by omega) (by rw [h.2]; omega), h.1, fa_work0]
  rfl
theorem fa_fl0n {s : DSt} (h : FailsAt s 0) : Disk.Calm s.fl := by
  unfold DSt.fl
  rw [h.1, fa_work0, if_neg (by decide)]
  rfl
theorem saves_fail_calm {s s' : DSt} {gen E : Int} {l : List Int} {k : Nat} (h : FailsAt s k) (hk : k ≤ 2) (hl : l.length ≤ 960) (hS : Saves s gen l E s') : Disk.Calm s' := by
  have hp := pagesN_le hl
  have ha := aN_rng gen
  by_cases c : k < pagesN l
  · obtain ⟨w1, w2⟩ := fa_wrN (s := s) (a := aN gen) (page_len l) k 0 (by omega) (by rw [Nat.zero_add]; exact h)
    have w3 := fa_wr0 w2 (aN gen + 1 + k) (by omega)
    have w4 := fa_wr0n w2 (aN gen + 1 + k) (by omega) (page l k) (page_len l k)
    rw [show ((aN gen + 1 + k : Nat) : Int) = (aN gen : Int) + 1 + k by omega] at w3 w4
    rw [← aN_eq] at w1 w3 w4
    rcases hS with ⟨k', hk', h1, h2, h3, rfl⟩ | ⟨h1, _⟩
    · rcases Nat.lt_trichotomy k' k with q | q | q
      · exact absurd (by rw [← h2]; exact w1 k' q) h3
      · subst q; exact w4
      · have := h1 k q; rw [w3] at this; cases this
    · have := h1 k c; rw [w3] at this; cases this
  · obtain ⟨w1, w2⟩ := fa_wrN (s := s) (a := aN gen) (page_len l) (pagesN l) (k - pagesN l) (by omega) (by rw [show k - pagesN l + pagesN l = k by omega]; exact h)
    rw [← aN_eq] at w1 w2
    rcases hS with ⟨k', hk', h1, h2, h3, _⟩ | ⟨_, hS⟩
    · exact absurd (by rw [← h2]; exact w1 k' hk') h3
    · generalize wrN s (slotAt gen) (page l) (pagesN l) = s1 at *
      obtain ⟨m, hm⟩ : ∃ m, m = k - pagesN l := ⟨_, rfl⟩
      rw [← hm] at w2
      have hm2 : m = 0 ∨ m = 1 ∨ m = 2 := by omega
      rcases hm2 with rfl | rfl | rfl
      · rcases hS with ⟨_, _, rfl⟩ | ⟨h1, _⟩
        · exact fa_fl0n w2
        · rw [fa_fl0 w2] at h1; cases h1
      · obtain ⟨f1, f2⟩ := fa_fl (k := 0) w2
        rcases hS with ⟨h1, h2, _⟩ | ⟨_, _, rfl⟩
        · exact absurd (by rw [← h1]; exact f1) h2
        · have e := fa_wr0 f2 (aN gen) (by omega)
          have e2 := fa_wr0n f2 (aN gen) (by omega) (headL gen l) (headL_len gen l)
          rw [← aN_eq] at e e2
          unfold appS
          rw [headL_len, if_neg (by rw [e]; decide)]
          exact e2
      · obtain ⟨f1, f2⟩ := fa_fl (k := 1) w2
        rcases hS with ⟨h1, h2, _⟩ | ⟨_, _, rfl⟩
        · exact absurd (by rw [← h1]; exact f1) h2
        · obtain ⟨a1, a2⟩ := fa_wr (k := 0) f2 (aN gen) (by omega) (headL gen l) (headL_len gen l)
          rw [← aN_eq] at a1 a2
          unfold appS
          rw [headL_len, a1, if_pos rfl]
          exact fa_fl0n a2
/-- an append on a calm disk: all is sure -/
theorem app_firmly {s : DSt} {f : Nat → List Int} (h : Says s f) (n : Nat) (hn : n < 192) (S : List Int) (hS : S.length = 64) : Firm (appS s (n : Int) S) (fun j => if j = n then S else f j) := by
  obtain ⟨a, b⟩ := app_calm h.1 (n := (n : Int)) (by omega) (by rw [h.2.1]; omega) hS
  obtain ⟨_, c⟩ := says_app h n hn S hS
  refine ⟨c.2.1, fun j => ?_, fun j => ?_⟩
  · rw [← c.2.2 j, b]; rfl
  · rw [b]; rfl
end Go.Proofs.Ytmonkoclbcahiaa.Jour
