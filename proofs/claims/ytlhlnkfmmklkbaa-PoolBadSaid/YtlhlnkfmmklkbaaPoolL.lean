/- Frames and what they are used for: Offline. -/
import Derived.Test.YtlhlnkfmmklkbaaPoolK
namespace Go.Proofs.Ytlhlnkfmmklkbaa.Pool
open Go.RowKit Go.Proofs.Ytlhlnkfmmklkbaa.Hp Go.Proofs.Ytlhlnkfmmklkbaa.Runs
set_option linter.unusedVariables false
set_option linter.unusedSimpArgs false
/-- the uses when the first k frames from a on have gone off line -/
def offU (U : Nat → Int) (a k : Nat) : Nat → Int := fun f => if (a ≤ f ∧ f < a + k) ∧ U f ≠ 6 then 0 else U f
theorem offU_zero (U : Nat → Int) (a : Nat) : offU U a 0 = U := by
  funext f; unfold offU; rw [if_neg (by omega)]
theorem offU_at (U : Nat → Int) (a : Nat) (k : Nat) : offU U a k (a + k) = U (a + k) := by
  unfold offU; rw [if_neg (by omega)]
theorem offU_bad (U : Nat → Int) (a k : Nat) (h : U (a + k) = 6) : offU U a k = offU U a (k + 1) := by
  funext f
  unfold offU
  by_cases e : f = a + k
  · subst e; rw [if_neg (fun x => x.2 h), if_neg (fun x => x.2 h)]
  · by_cases c : (a ≤ f ∧ f < a + k) ∧ U f ≠ 6
    · have c' : (a ≤ f ∧ f < a + (k + 1)) ∧ U f ≠ 6 := ⟨⟨c.1.1, by omega⟩, c.2⟩
      rw [if_pos c, if_pos c']
    · have c' : ¬ ((a ≤ f ∧ f < a + (k + 1)) ∧ U f ≠ 6) := fun x => c ⟨⟨x.1.1, by omega⟩, x.2⟩
      rw [if_neg c, if_neg c']
theorem offU_succ (U : Nat → Int) (a k : Nat) (h : U (a + k) ≠ 6) : upd (offU U a k) (a + k) 0 = offU U a (k + 1) := by
  funext f
  unfold upd offU
  by_cases e : f = a + k
  · subst e; rw [if_pos rfl, if_pos ⟨⟨by omega, by omega⟩, h⟩]
  · rw [if_neg e]
    by_cases c : (a ≤ f ∧ f < a + k) ∧ U f ≠ 6
    · have c' : (a ≤ f ∧ f < a + (k + 1)) ∧ U f ≠ 6 := ⟨⟨c.1.1, by omega⟩, c.2⟩
      rw [if_pos c, if_pos c']
    · have c' : ¬ ((a ≤ f ∧ f < a + (k + 1)) ∧ U f ≠ 6) := fun x => c ⟨⟨x.1.1, by omega⟩, x.2⟩
      rw [if_neg c, if_neg c']
def OffPost (w : World) (p b bi : Nat) (U Z : Nat → Int) (I : Nat → Bool) (s : Int) (e : Ending) (w' : World) : Prop :=
  (¬ (0 ≤ s ∧ s < 32) ∧ e = .returned (.int .i64 1) ∧ w = w') ∨
  ((0 ≤ s ∧ s < 32) ∧ Z s.toNat = 0 ∧ e = .returned (.int .i64 2) ∧ w = w') ∨
  ((0 ≤ s ∧ s < 32) ∧ Z s.toNat ≠ 0 ∧ cnt U 1 (s.toNat * 32) 32 + cnt U 6 (s.toNat * 32) 32 ≠ 32 ∧ e = .returned (.int .i64 5) ∧ w = w') ∨
  ((0 ≤ s ∧ s < 32) ∧ Z s.toNat ≠ 0 ∧ cnt U 1 (s.toNat * 32) 32 + cnt U 6 (s.toNat * 32) 32 = 32 ∧ e = .returned (.int .i64 0) ∧ PoolAt w' p b bi (offU U (s.toNat * 32) 32) (upd Z s.toNat 0) (updB I s.toNat false) ∧ Chg (fun i => i = p ∨ i = bi) w w')
theorem off_bad (p b bi : Nat) (s : Int) (w : World) (h : ¬ (0 ≤ s ∧ s < 32)) :
    Calls Try.prog 32 #[.pointer (some ⟨p, 0, none⟩), .int .i64 s] w fun e w' => e = .returned (.int .i64 1) ∧ w = w' := by
  have hd : decide (0 ≤ s ∧ s < 32) = false := decide_eq_false h
  clear h
  go_enter Try.func32, Try.ntmps32
  go_wp2_with fail
  refine (there_any s _).mono ?_
  rintro e w1 ⟨rfl, rfl⟩
  rw [hd]
  clear hd
  go_wp2_with fail
  go_ret
  exact ⟨rfl, rfl⟩
theorem off_none (p b bi : Nat) (U Z : Nat → Int) (I : Nat → Bool) (L : List Int) (s : Nat) (hs : s < 32) (w : World) (h : RPool w p b bi U Z I L) (hz : Z s = 0) :
    Calls Try.prog 32 #[.pointer (some ⟨p, 0, none⟩), .int .i64 s] w fun e w' => e = .returned (.int .i64 2) ∧ w = w' := by
  have hd : decide (0 ≤ (s : Int) ∧ (s : Int) < 32) = true := decide_eq_true ⟨by omega, by omega⟩
  have hc := h.zone s hs
  rw [hz] at hc
  clear h hz
  go_enter Try.func32, Try.ntmps32
  go_wp2_with fail
  refine (there_any s _).mono ?_
  rintro e w1 ⟨rfl, rfl⟩
  rw [hd]
  clear hd
  go_wp2_with fail
  go_ret
  exact ⟨rfl, rfl⟩
theorem off_busy (p b bi : Nat) (U Z : Nat → Int) (I : Nat → Bool) (L : List Int) (s : Nat) (hs : s < 32) (w : World) (h : RPool w p b bi U Z I L) (hz : Z s ≠ 0) (hn : cnt U 1 (s * 32) 32 + cnt U 6 (s * 32) 32 ≠ 32) :
    Calls Try.prog 32 #[.pointer (some ⟨p, 0, none⟩), .int .i64 s] w fun e w' => e = .returned (.int .i64 5) ∧ w = w' := by
  have hd : decide (0 ≤ (s : Int) ∧ (s : Int) < 32) = true := decide_eq_true ⟨by omega, by omega⟩
  have hc := h.zone s hs
  have hne : (Z s == 0) = false := beq_eq_false_iff_ne.mpr hz
  have c1 := count_in p b bi U Z I L s hs 1 w h
  have c6 := count_in p b bi U Z I L s hs 6 w h
  have l1 := cnt_le U 1 (s * 32) 32
  have l6 := cnt_le U 6 (s * 32) 32
  generalize cnt U 1 (s * 32) 32 = n1 at *
  generalize cnt U 6 (s * 32) 32 = n6 at *
  have hb : ((n1 : Int) + (n6 : Int) != 32) = true := by rw [bne_iff_ne]; omega
  clear h hz hn
  generalize Z s = z at *
  go_enter Try.func32, Try.ntmps32
  go_wp2_with fail
  refine (there_any s _).mono ?_
  rintro e w1 ⟨rfl, rfl⟩
  rw [hd]
  clear hd
  go_wp2_with fail
  refine c1.mono ?_
  rintro e w1 ⟨rfl, rfl⟩
  go_wp2_with fail
  refine c6.mono ?_
  rintro e w1 ⟨rfl, rfl⟩
  clear c1 c6
  go_wp2_with fail
  go_ret
  exact ⟨rfl, rfl⟩
def OffRel (w : World) (p b bi : Nat) (U Z : Nat → Int) (I : Nat → Bool) (a : Nat) (i : Value) (wr : World) : Prop :=
  ∃ k : Nat, k ≤ 32 ∧ i = .int .i64 ((a + k : Nat) : Int) ∧ PoolAt wr p b bi (offU U a k) Z I ∧ Chg (fun i => i = p ∨ i = bi) w wr
set_option maxHeartbeats 2000000 in
theorem off_ok (p b bi : Nat) (U Z : Nat → Int) (I : Nat → Bool) (s : Nat) (hs : s < 32) (w : World) (h : PoolAt w p b bi U Z I) (hz : Z s ≠ 0) (hn : cnt U 1 (s * 32) 32 + cnt U 6 (s * 32) 32 = 32) :
    Calls Try.prog 32 #[.pointer (some ⟨p, 0, none⟩), .int .i64 s] w fun e w' => e = .returned (.int .i64 0) ∧ PoolAt w' p b bi (offU U (s * 32) 32) (upd Z s 0) (updB I s false) ∧ Chg (fun i => i = p ∨ i = bi) w w' := by
  have hd : decide (0 ≤ (s : Int) ∧ (s : Int) < 32) = true := decide_eq_true ⟨by omega, by omega⟩
  have hc := h.zone s hs
  have hne : (Z s == 0) = false := beq_eq_false_iff_ne.mpr hz
  have c1 := count_in p b bi U Z I _ s hs 1 w h
  have c6 := count_in p b bi U Z I _ s hs 6 w h
  have l1 := cnt_le U 1 (s * 32) 32
  have l6 := cnt_le U 6 (s * 32) 32
  generalize cnt U 1 (s * 32) 32 = n1 at *
  generalize cnt U 6 (s * 32) 32 = n6 at *
  have hb : ((n1 : Int) + (n6 : Int) != 32) = false := by simpa using (by omega : (n1 : Int) + n6 = 32)
  have hi := h.iso s hs
  have hfz := h.frz
  have h2 := (h.setZone s hs 0).setIso s hs false
  have C2 : Chg (fun i => i = p ∨ i = bi) w ((w.setCell ⟨p, 1025 + s * 2, none⟩ (.int .i64 0)).setCell ⟨p, 1025 + s * 2 + 1, none⟩ (.bool false)) :=
    Chg.set (S := fun i => i = p ∨ i = bi) (Chg.set (S := fun i => i = p ∨ i = bi) (Chg.refl _ w) (p := ⟨p, 1025 + s * 2, none⟩) (.inl (.inl rfl)) _) (p := ⟨p, 1025 + s * 2 + 1, none⟩) (.inl (.inl rfl)) _
  clear h hz hn
  have ha : s * 32 + 32 ≤ 1024 := by omega
  generalize Z s = z at hc hne
  go_enter Try.func32, Try.ntmps32
  go_wp2_with fail
  refine (there_any s _).mono ?_
  rintro e w1 ⟨rfl, rfl⟩
  rw [hd]
  clear hd
  go_wp2_with fail
  refine c1.mono ?_
  rintro e w1 ⟨rfl, rfl⟩
  go_wp2_with fail
  refine c6.mono ?_
  rintro e w1 ⟨rfl, rfl⟩
  clear c1 c6
  go_wp2_with fail
  refine (frames_in s hs _).mono ?_
  rintro e w1 ⟨rfl, rfl⟩
  rw [show ((s : Int) * 32) = ((s * 32 : Nat) : Int) from by omega, show (((s : Int) + 1) * 32) = ((s * 32 + 32 : Nat) : Int) from by omega]
  generalize (w.setCell ⟨p, 1025 + s * 2, none⟩ (.int .i64 0)).setCell ⟨p, 1025 + s * 2 + 1, none⟩ (.bool false) = W at *
  generalize hz1 : upd Z s 0 = Z1 at *
  generalize hi1 : updB I s false = I1 at *
  generalize hae : s * 32 = a at *
  have HAE := Lib.hid (And.intro hae (And.intro hz1 hi1))
  clear hae hz1 hi1 hc hi hfz hb l1 l6 hne
  go_wp2_with fail
  go_loopw [7] (fun i wr => OffRel w p b bi U Z1 I1 a i wr) (fun i wr => ((a : Int) + 32 - intOf i).toNat)
  case atStart => exact ⟨0, by omega, rfl, by rw [offU_zero]; exact h2, C2⟩
  case round =>
    obtain ⟨k, hk, rfl, hR, hC⟩ := hrel
    by_cases hlt : k < 32
    · have hc := hR.use (a + k) (by omega)
      rw [offU_at] at hc
      by_cases e6 : U (a + k) = 6
      · have nx : OffRel w p b bi U Z1 I1 a (.int .i64 (((a + k : Nat) : Int) + 1)) wr := ⟨k + 1, by omega, rfl, by rw [← offU_bad U a k e6]; exact hR, hC⟩
        have NX := Lib.hid nx
        rw [e6] at hc
        clear nx hR hC h2 C2 e6
        go_wp2_with fail
        exact ⟨NX.out, by simp [intOf]; omega⟩
      · have st := set_any p b bi _ Z1 I1 _ (a + k) 0 wr (by omega) hR
        have nx : ∀ w', SetPost wr p b bi (offU U a k) Z1 I1 (freeL (offU U a k)) (a + k) 0 (.returned (.tuple #[])) w' → OffRel w p b bi U Z1 I1 a (.int .i64 (((a + k : Nat) : Int) + 1)) w' := by
          intro w' hp
          refine ⟨k + 1, by omega, rfl, ?_, hC.trans hp.2.2 (fun i _ hh => hh)⟩
          have h3 := hp.2.1
          rw [freeL_set _ _ _ (by omega), offU_succ U a k e6] at h3
          exact h3
        have NX := Lib.hid nx
        have hb : (U (a + k) != 6) = true := by rw [bne_iff_ne]; exact e6
        clear nx hR hC h2 C2 e6
        generalize U (a + k) = u at *
        go_wp2_with fail
        refine st.mono ?_
        rintro e w2 hp
        obtain rfl := hp.1
        have F := NX.out _ hp
        clear hp st NX
        go_wp2_with fail
        exact ⟨F, by simp [intOf]; omega⟩
    · obtain rfl : k = 32 := by omega
      clear h2 C2
      go_wp2_with fail
      go_ret
      rw [HAE.out.1, HAE.out.2.1, HAE.out.2.2]
      exact ⟨rfl, hR, hC⟩
theorem offline_any (p b bi : Nat) (U Z : Nat → Int) (I : Nat → Bool) (s : Int) (w : World) (h : PoolAt w p b bi U Z I) :
    Calls Try.prog 32 #[.pointer (some ⟨p, 0, none⟩), .int .i64 s] w (OffPost w p b bi U Z I s) := by
  by_cases g : 0 ≤ s ∧ s < 32
  · obtain ⟨t, rfl⟩ := Int.eq_ofNat_of_zero_le g.1
    have ht : t < 32 := by have := g.2; omega
    by_cases hz : Z t = 0
    · refine (off_none p b bi U Z I _ t ht w h hz).mono ?_
      rintro e w1 ⟨rfl, rfl⟩
      exact .inr (.inl ⟨g, hz, rfl, rfl⟩)
    · by_cases hn : cnt U 1 (t * 32) 32 + cnt U 6 (t * 32) 32 = 32
      · refine (off_ok p b bi U Z I t ht w h hz hn).mono ?_
        rintro e w1 ⟨rfl, h1, h2⟩
        exact .inr (.inr (.inr ⟨g, hz, hn, rfl, h1, h2⟩))
      · refine (off_busy p b bi U Z I _ t ht w h hz hn).mono ?_
        rintro e w1 ⟨rfl, rfl⟩
        exact .inr (.inr (.inl ⟨g, hz, hn, rfl, rfl⟩))
  · refine (off_bad p b bi s w g).mono ?_
    rintro e w1 ⟨rfl, rfl⟩
    exact .inl ⟨g, rfl, rfl⟩
end Go.Proofs.Ytlhlnkfmmklkbaa.Pool
