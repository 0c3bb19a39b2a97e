/- Frames and what they are used for: Online. -/
import Derived.Test.YtimdojkhdneecaaPoolI
namespace Go.Proofs.Ytimdojkhdneecaa.Pool
open Go.RowKit Go.Proofs.Ytimdojkhdneecaa.Hp Go.Proofs.Ytimdojkhdneecaa.Runs
set_option linter.unusedVariables false
set_option linter.unusedSimpArgs false
/-- the uses when the first k frames from a on have come on line -/
def onU (U : Nat → Int) (a : Nat) (bad : List Int) (k : Nat) : Nat → Int := fun f => if a ≤ f ∧ f < a + k then (if U f = 6 ∨ (f : Int) ∈ bad then 6 else 1) else U f
theorem onU_zero (U : Nat → Int) (a : Nat) (bad : List Int) : onU U a bad 0 = U := by
  funext f; unfold onU; rw [if_neg (by omega)]
theorem onU_at (U : Nat → Int) (a : Nat) (bad : List Int) (k : Nat) : onU U a bad k (a + k) = U (a + k) := by
  unfold onU; rw [if_neg (by omega)]
theorem onU_succ (U : Nat → Int) (a : Nat) (bad : List Int) (k : Nat) (v : Int) (hv : v = if U (a + k) = 6 ∨ ((a + k : Nat) : Int) ∈ bad then 6 else 1) : upd (onU U a bad k) (a + k) v = onU U a bad (k + 1) := by
  funext f
  unfold upd onU
  by_cases e : f = a + k
  · subst e
    rw [if_pos rfl, if_pos ⟨by omega, by omega⟩, hv]
  · rw [if_neg e]
    by_cases c : a ≤ f ∧ f < a + k
    · have c' : a ≤ f ∧ f < a + (k + 1) := ⟨c.1, by omega⟩
      rw [if_pos c, if_pos c']
    · have c' : ¬ (a ≤ f ∧ f < a + (k + 1)) := by omega
      rw [if_neg c, if_neg c']
def OnPost (w : World) (p b bi : Nat) (U Z : Nat → Int) (I : Nat → Bool) (s zone : Int) (bad : List Int) (e : Ending) (w' : World) : Prop :=
  (¬ ((0 ≤ s ∧ s < 32) ∧ (zone = 2 ∨ zone = 3)) ∧ e = .returned (.int .i64 1) ∧ w = w') ∨
  (((0 ≤ s ∧ s < 32) ∧ (zone = 2 ∨ zone = 3)) ∧ Z s.toNat ≠ 0 ∧ e = .returned (.int .i64 3) ∧ w = w') ∨
  (((0 ≤ s ∧ s < 32) ∧ (zone = 2 ∨ zone = 3)) ∧ Z s.toNat = 0 ∧ e = .returned (.int .i64 0) ∧ PoolAt w' p b bi (onU U (s.toNat * 32) bad 32) (upd Z s.toNat zone) (updB I s.toNat false) ∧ Chg (fun i => i = p ∨ i = bi) w w')
theorem on_bad (p b bi : Nat) (U Z : Nat → Int) (I : Nat → Bool) (s zone : Int) (V : Value) (w : World) (h : ¬ ((0 ≤ s ∧ s < 32) ∧ (zone = 2 ∨ zone = 3))) :
    Calls Try.prog 23 #[.pointer (some ⟨p, 0, none⟩), .int .i64 s, .int .i64 zone, V] w fun e w' => e = .returned (.int .i64 1) ∧ w = w' := by
  by_cases c : 0 ≤ s ∧ s < 32
  · have hd : decide (0 ≤ s ∧ s < 32) = true := decide_eq_true c
    have z2 : (zone != 2) = true := by rw [bne_iff_ne]; exact fun e => h ⟨c, .inl e⟩
    have z3 : (zone != 3) = true := by rw [bne_iff_ne]; exact fun e => h ⟨c, .inr e⟩
    clear h c
    go_enter Try.func23, Try.ntmps23
    go_wp2_with fail
    refine (there_any s _).mono ?_
    rintro e w1 ⟨rfl, rfl⟩
    rw [hd]
    clear hd
    go_wp2_with fail
    go_ret
    exact ⟨rfl, rfl⟩
  · have hd : decide (0 ≤ s ∧ s < 32) = false := decide_eq_false c
    clear h c
    go_enter Try.func23, Try.ntmps23
    go_wp2_with fail
    refine (there_any s _).mono ?_
    rintro e w1 ⟨rfl, rfl⟩
    rw [hd]
    clear hd
    go_wp2_with fail
    go_ret
    exact ⟨rfl, rfl⟩
theorem on_there (p b bi : Nat) (U Z : Nat → Int) (I : Nat → Bool) (L : List Int) (s : Nat) (hs : s < 32) (zone : Int) (hzo : zone = 2 ∨ zone = 3) (V : Value) (w : World) (h : RPool w p b bi U Z I L) (hz : Z s ≠ 0) :
    Calls Try.prog 23 #[.pointer (some ⟨p, 0, none⟩), .int .i64 s, .int .i64 zone, V] w fun e w' => e = .returned (.int .i64 3) ∧ w = w' := by
  have hd : decide (0 ≤ (s : Int) ∧ (s : Int) < 32) = true := decide_eq_true ⟨by omega, by omega⟩
  have hc := h.zone s hs
  have hne : (Z s != 0) = true := by rw [bne_iff_ne]; exact hz
  clear h hz
  generalize Z s = z at *
  rcases hzo with rfl | rfl
  all_goals
    go_enter Try.func23, Try.ntmps23
    go_wp2_with fail
    refine (there_any s _).mono ?_
    rintro e w1 ⟨rfl, rfl⟩
    rw [hd]
    clear hd
    go_wp2_with fail
    go_ret
    exact ⟨rfl, rfl⟩
def OnRel (w : World) (p b bi : Nat) (U Z : Nat → Int) (I : Nat → Bool) (a : Nat) (bad : List Int) (i : Value) (wr : World) : Prop :=
  ∃ k : Nat, k ≤ 32 ∧ i = .int .i64 ((a + k : Nat) : Int) ∧ PoolAt wr p b bi (onU U a bad k) Z I ∧ Chg (fun i => i = p ∨ i = bi) w wr
set_option maxHeartbeats 2000000 in
theorem on_ok (p b bi : Nat) (U Z : Nat → Int) (I : Nat → Bool) (s : Nat) (hs : s < 32) (zone : Int) (hzo : zone = 2 ∨ zone = 3) (A : Option Addr) (c : Nat) (bad : List Int) (w : World) (h : PoolAt w p b bi U Z I) (hz : Z s = 0)
    (hF : Rd w .i64 A bad) (ho : 0 < bad.length → Off A (fun i => i = p ∨ i = bi)) :
    Calls Try.prog 23 #[.pointer (some ⟨p, 0, none⟩), .int .i64 s, .int .i64 zone, .slice A bad.length c] w fun e w' => e = .returned (.int .i64 0) ∧ PoolAt w' p b bi (onU U (s * 32) bad 32) (upd Z s zone) (updB I s false) ∧ Chg (fun i => i = p ∨ i = bi) w w' := by
  have hd : decide (0 ≤ (s : Int) ∧ (s : Int) < 32) = true := decide_eq_true ⟨by omega, by omega⟩
  have hc := h.zone s hs
  rw [hz] at hc
  have hi := h.iso s hs
  have hfz := h.frz
  have h2 := (h.setZone s hs zone).setIso s hs false
  have C2 : Chg (fun i => i = p ∨ i = bi) w ((w.setCell ⟨p, 1025 + s * 2, none⟩ (.int .i64 zone)).setCell ⟨p, 1025 + s * 2 + 1, none⟩ (.bool false)) :=
    Chg.set (S := fun i => i = p ∨ i = bi) (Chg.set (S := fun i => i = p ∨ i = bi) (Chg.refl _ w) (p := ⟨p, 1025 + s * 2, none⟩) (.inl (.inl rfl)) _) (p := ⟨p, 1025 + s * 2 + 1, none⟩) (.inl (.inl rfl)) _
  clear h hz
  have H0 := h2.use
  have hzo' : (zone != 2) = false ∨ ((zone != 2) = true ∧ (zone != 3) = false) := by rcases hzo with rfl | rfl <;> decide
  clear hzo
  have ha : s * 32 + 32 ≤ 1024 := by omega
  rcases hzo' with z2 | ⟨z2, z3⟩
  all_goals
    go_enter Try.func23, Try.ntmps23
    go_wp2_with fail
    refine (there_any s _).mono ?_
    rintro e w1 ⟨rfl, rfl⟩
    rw [hd]
    clear hd
    go_wp2_with fail
    refine (frames_in s hs _).mono ?_
    rintro e w1 ⟨rfl, rfl⟩
    rw [show ((s : Int) * 32) = ((s * 32 : Nat) : Int) from by omega, show (((s : Int) + 1) * 32) = ((s * 32 + 32 : Nat) : Int) from by omega]
    generalize (w.setCell ⟨p, 1025 + s * 2, none⟩ (.int .i64 zone)).setCell ⟨p, 1025 + s * 2 + 1, none⟩ (.bool false) = W at *
    generalize hz1 : upd Z s zone = Z1 at *
    generalize hi1 : updB I s false = I1 at *
    generalize hae : s * 32 = a at *
    have HAE := Lib.hid (And.intro hae (And.intro hz1 hi1))
    clear hae hz1 hi1
    clear z2 hc hi hfz H0
    go_wp2_with fail
    go_loopw [11] (fun i wr => OnRel w p b bi U Z1 I1 a bad i wr) (fun i wr => ((a : Int) + 32 - intOf i).toNat)
    case atStart => exact ⟨0, by omega, rfl, by rw [onU_zero]; exact h2, C2⟩
    case round =>
      obtain ⟨k, hk, rfl, hR, hC⟩ := hrel
      by_cases hlt : k < 32
      · have hc := hR.use (a + k) (by omega)
        rw [onU_at] at hc
        have hcon := contains_any A c bad ((a + k : Nat) : Int) wr (hF.chg hC ho)
        have st := fun (v : Int) => set_any p b bi _ Z1 I1 _ (a + k) v wr (by omega) hR
        have nx : ∀ v w', v = (if U (a + k) = 6 ∨ ((a + k : Nat) : Int) ∈ bad then 6 else 1) → SetPost wr p b bi (onU U a bad k) Z1 I1 (freeL (onU U a bad k)) (a + k) v (.returned (.tuple #[])) w' → OnRel w p b bi U Z1 I1 a bad (.int .i64 (((a + k : Nat) : Int) + 1)) w' := by
          intro v w' hv hp
          refine ⟨k + 1, by omega, rfl, ?_, hC.trans hp.2.2 (fun i _ hh => hh)⟩
          have h3 := hp.2.1
          rw [freeL_set _ _ _ (by omega), onU_succ U a bad k v hv] at h3
          exact h3
        have NX := Lib.hid nx
        clear nx hR hF ho h2 C2 hC
        generalize U (a + k) = u at *
        by_cases e6 : u = 6
        · have NY := NX.out 6
          rw [if_pos (.inl e6)] at NY
          have hb : (u == 6) = true := beq_iff_eq.mpr e6
          clear e6 hcon
          have h3 := st 6
          clear NX st
          have NZ := Lib.hid (fun w' => NY w' rfl)
          clear NY
          go_wp2_with fail
          refine h3.mono ?_
          rintro e w2 hp
          obtain rfl := hp.1
          have F := NZ.out _ hp
          clear hp h3 NZ
          go_wp2_with fail
          exact ⟨F, by simp [intOf]; omega⟩
        have hb : (u == 6) = false := beq_eq_false_iff_ne.mpr e6
        by_cases m : ((a + k : Nat) : Int) ∈ bad
        · rw [decide_eq_true m] at hcon
          have NY := NX.out 6
          rw [if_pos (.inr m)] at NY
          clear e6 m
          have h3 := st 6
          clear NX st
          have NZ := Lib.hid (fun w' => NY w' rfl)
          clear NY
          go_wp2_with fail
          refine hcon.mono ?_
          rintro e w4 ⟨rfl, rfl⟩
          clear hcon
          go_wp2_with fail
          refine h3.mono ?_
          rintro e w2 hp
          obtain rfl := hp.1
          have F := NZ.out _ hp
          clear hp h3 NZ
          go_wp2_with fail
          exact ⟨F, by simp [intOf]; omega⟩
        · rw [decide_eq_false m] at hcon
          have NY := NX.out 1
          rw [if_neg (fun x => x.elim e6 m)] at NY
          clear e6 m
          have h3 := st 1
          clear NX st
          have NZ := Lib.hid (fun w' => NY w' rfl)
          clear NY
          go_wp2_with fail
          refine hcon.mono ?_
          rintro e w4 ⟨rfl, rfl⟩
          clear hcon
          go_wp2_with fail
          refine h3.mono ?_
          rintro e w2 hp
          obtain rfl := hp.1
          have F := NZ.out _ hp
          clear hp h3 NZ
          go_wp2_with fail
          exact ⟨F, by simp [intOf]; omega⟩
      · obtain rfl : k = 32 := by omega
        have post : (Ending.returned (.int .i64 0) = .returned (.int .i64 0)) ∧ PoolAt wr p b bi (onU U a bad 32) Z1 I1 ∧ Chg (fun i => i = p ∨ i = bi) w wr := ⟨rfl, hR, hC⟩
        clear hR hC hF ho h2 C2
        go_wp2_with fail
        go_ret
        rw [HAE.out.1, HAE.out.2.1, HAE.out.2.2]
        exact ⟨rfl, post.2⟩
theorem online_any (p b bi : Nat) (U Z : Nat → Int) (I : Nat → Bool) (s zone : Int) (A : Option Addr) (c : Nat) (bad : List Int) (w : World) (h : PoolAt w p b bi U Z I) (hF : Rd w .i64 A bad) (ho : 0 < bad.length → Off A (fun i => i = p ∨ i = bi)) :
    Calls Try.prog 23 #[.pointer (some ⟨p, 0, none⟩), .int .i64 s, .int .i64 zone, .slice A bad.length c] w (OnPost w p b bi U Z I s zone bad) := by
  by_cases g : (0 ≤ s ∧ s < 32) ∧ (zone = 2 ∨ zone = 3)
  · obtain ⟨t, rfl⟩ := Int.eq_ofNat_of_zero_le g.1.1
    have ht : t < 32 := by have := g.1.2; omega
    by_cases hz : Z t = 0
    · refine (on_ok p b bi U Z I t ht zone g.2 A c bad w h hz hF ho).mono ?_
      rintro e w1 ⟨rfl, h1, h2⟩
      exact .inr (.inr ⟨g, hz, rfl, h1, h2⟩)
    · refine (on_there p b bi U Z I _ t ht zone g.2 _ w h hz).mono ?_
      rintro e w1 ⟨rfl, rfl⟩
      exact .inr (.inl ⟨g, hz, rfl, rfl⟩)
  · refine (on_bad p b bi U Z I s zone _ w g).mono ?_
    rintro e w1 ⟨rfl, rfl⟩
    exact .inl ⟨g, rfl, rfl⟩
end Go.Proofs.Ytimdojkhdneecaa.Pool
