/- Chapter 4: LogSkips. -/
import Derived.Test.YtfjldlhboaeemaaLogF
namespace Go.Proofs.Ytfjldlhboaeemaa.Log
open Go.RowKit Go.Proofs.Ytfjldlhboaeemaa.Hp Go.Proofs.Ytfjldlhboaeemaa.By Go.Proofs.Ytfjldlhboaeemaa.Disk Go.Proofs.Ytfjldlhboaeemaa.Word Go.Proofs.Ytfjldlhboaeemaa.WordP
set_option linter.unusedVariables false
set_option linter.unusedSimpArgs false
/-- a disk where nothing fails, and what its sectors say -/
def Says (s : DSt) (f : Nat → List Int) : Prop := Disk.Calm s ∧ s.n = 192 ∧ ∀ j : Nat, s.get (j : Int) = f j
theorem says_new : Says (DSt.new 192) (fun _ => List.replicate 64 0) := ⟨rfl, rfl, fun _ => rfl⟩
theorem says_app {s : DSt} {f : Nat → List Int} (h : Says s f) (n : Nat) (hn : n < 192) (S : List Int) (hS : S.length = 64) : appE s n S = 0 ∧ Says (appS s n S) (fun j => if j = n then S else f j) := by
  obtain ⟨a, b⟩ := app_calm h.1 (n := (n : Int)) (by omega) (by rw [h.2.1]; omega) hS
  refine ⟨a, ?_⟩
  rw [b, Int.toNat_natCast]
  refine ⟨h.1, h.2.1, fun j => ?_⟩
  rw [sure_get]
  show (s.put n S).get (j : Int) = if j = n then S else f j
  by_cases c : j = n
  · subst c
    rw [if_pos rfl]
    have : ((s.put j S).get ((j : Nat) : Int)) = S := by unfold DSt.get DSt.put; simp
    exact this
  · rw [if_neg c, get_put_ne n S (j : Int) (by omega)]
    exact h.2.2 j
theorem lrows_len {w : World} {base : Nat} {v : Value} {bs : List (List Int)} (h : LRows w base v bs) : ∃ A c, v = .slice A bs.length c := by
  obtain ⟨SVs, hown, _⟩ := h
  rcases hown.2 with ⟨rfl, h0⟩ | ⟨g, cap, cur, rfl, _⟩
  · exact ⟨none, 0, by rw [h0]⟩
  · exact ⟨_, _, rfl⟩
/-- so many records are read -/
def CntAns (w0 : World) (d : Nat) (ρ : Nat → Nat) (s : DSt) (k : Nat) (e : Ending) (w' : World) : Prop := ∃ A c, e = .returned (.tuple #[.slice A k c, .int .i64 0]) ∧ DL w0 w' d ρ s
theorem says_rep {w0 w : World} {d : Nat} {ρ : Nat → Nat} {s : DSt} {f : Nat → List Int} (gen : Int) (g0 : 0 ≤ gen) (g1 : gen < 4294967296) (h : DL w0 w d ρ s) (hs : Says s f) (k : Nat) (hk : k ≤ 64) (h1 : ∀ j, j < k → (recOf (f j) gen j).isSome = true) (h2 : k = 64 ∨ recOf (f k) gen k = none) :
    Calls Try.prog 14 #[.pointer (some ⟨d, 0, none⟩), .int .u32 gen] w (CntAns w0 d ρ s k) := by
  refine (replay_any gen g0 g1 (by rw [hs.2.1]; decide) h).mono fun e w' hp => ?_
  obtain ⟨v, rfl, _, hL, hD⟩ := rep_calm hp hs.1 (by rw [hs.2.1]; decide) k hk (fun j hj => by rw [hs.2.2]; exact h1 j hj) (by rw [hs.2.2]; exact h2)
  obtain ⟨A, c, rfl⟩ := lrows_len hL
  rw [recs_len]
  exact ⟨A, c, rfl, hD⟩
def skf (gen : Int) (l : List Int) (k m : Nat) (j : Nat) : List Int := if j < m ∧ j ≠ k then secL gen j l else List.replicate 64 0
def SkB (w0 : World) (d : Nat) (gen : Int) (l : List Int) (k : Nat) (i : Value) (wr : World) : Prop := ∃ (m : Nat) (ρ : Nat → Nat) (s : DSt), m ≤ 62 ∧ i = .int .i64 m ∧ DL w0 wr d ρ s ∧ Says s (skf gen l k m)
theorem skf_some (gen : Int) (l : List Int) (h : l.length ≤ 50) (k j : Nat) (hj : j < 62) (hk : j ≠ k) : recOf (skf gen l k 62 j) gen j = some l := by
  unfold skf
  rw [if_pos ⟨hj, hk⟩]
  exact rec_sec gen j l h
theorem skf_none (gen : Int) (l : List Int) (g : 0 < gen ∧ gen < 4294967296) (k m j : Nat) (hj : ¬ (j < m ∧ j ≠ k)) : recOf (skf gen l k m j) gen j = none := by
  unfold skf
  rw [if_neg hj]
  exact rec_zero g
set_option maxRecDepth 100000 in
set_option maxHeartbeats 4000000 in
theorem logSkips (n gen : Int) (A : Option Addr) (c : Nat) (l : List Int) (w : World) (n0 : 0 ≤ n) (n1 : n ≤ 255) (g0 : 0 ≤ gen) (g1 : gen < 4294967296) (hr : Rd w .u8 A l) (hb : Bytes l) : Calls Try.prog 4 #[.int .u8 n, .int .u32 gen, .slice A l.length c] w (True1 w) := by
  have ans : ∀ w1, True1 w (.returned (.bool true)) w1 → True1 w (.returned (.bool true)) w1 := fun _ h => h
  by_cases hl : 50 < l.length ∨ gen = 0
  · have hd : (50 < l.length) ∨ (¬ 50 < l.length ∧ gen = 0) := by omega
    clear hr hb hl
    rcases hd with hd | ⟨hd, rfl⟩
    all_goals
      go_enter Try.func4, Try.ntmps4
      go_wp2_with fail
      refine (answers4 _).mono ?_
      rintro e w1 ⟨rfl, hC⟩
      have fin : True1 w (.returned (.bool true)) w1 := ⟨rfl, hC⟩
      clear hC
      go_wp2_with fail
      go_ret
      exact fin
  · have hl50 : l.length ≤ 50 := by omega
    have hg : 0 < gen := by omega
    have hd : decide (50 < (l.length : Int)) = false := by simp; omega
    have hd2 : (gen == 0) = false := by rw [beq_eq_false_iff_ne]; omega
    obtain ⟨k, hk, hnk⟩ : ∃ k : Nat, k < 60 ∧ n % 60 = (k : Int) := ⟨(n % 60).toNat, by omega, by omega⟩
    have HR := Lib.hid (And.intro hr hb)
    clear hr hb hl ans
    go_enter Try.func4, Try.ntmps4
    go_wp2_with fail
    refine (l_new 192 (by omega) (by omega) w).mono ?_
    rintro e w1 ⟨d, ρ, rfl, h⟩
    have hB : SkB w d gen l k (.int .i64 0) w1 := ⟨0, ρ, _, by omega, rfl, h, by
      have : skf gen l k 0 = fun _ => List.replicate 64 0 := by funext j; unfold skf; rw [if_neg (by omega)]
      rw [this]; exact says_new⟩
    clear h
    go_wp2_with fail
    simp only [hnk]
    go_loopw [9] (fun i wr => SkB w d gen l k i wr) (fun i wr => (62 - intOf i).toNat)
    case atStart => exact hB
    case round =>
      clear hB
      obtain ⟨m, ρ1, s, hm, rfl, hD, hS⟩ := hrel
      by_cases hlt : m < 62
      · by_cases hmk : m = k
        · have fin : SkB w d gen l k (.int .i64 ((m : Int) + 1)) wr := ⟨m + 1, ρ1, s, by omega, rfl, hD, by
            have : skf gen l k (m + 1) = skf gen l k m := by
              funext j; unfold skf
              by_cases c : j < m ∧ j ≠ k
              · rw [if_pos c, if_pos (by omega)]
              · rw [if_neg c, if_neg (by omega)]
            rw [this]; exact hS⟩
          subst hmk
          clear hD hS
          go_wp2_with fail
          exact ⟨fin, by simp [intOf]; omega⟩
        · have hne : ((m : Int) != (k : Int)) = true := by rw [bne_iff_ne]; omega
          have ha := append_any gen m A c l hD g0 g1 (by omega) (by omega) hl50 (HR.out.1.chg hD.ch (fun _ _ _ x => x)) HR.out.2
          obtain ⟨q1, q2⟩ := says_app hS m (by omega) (secL gen m l) (secL_len gen m l hl50)
          have q3 : Says (appS s m (secL gen m l)) (skf gen l k (m + 1)) := by
            have : skf gen l k (m + 1) = fun j => if j = m then secL gen m l else skf gen l k m j := by
              funext j; unfold skf
              by_cases c : j = m
              · subst c; rw [if_pos (by omega), if_pos rfl]
              · rw [if_neg c]
                by_cases c2 : j < m ∧ j ≠ k
                · rw [if_pos c2, if_pos (by omega)]
                · rw [if_neg c2, if_neg (by omega)]
            rw [this]; exact q2
          have Q := Lib.hid q3
          clear hD hS q1 q2 q3
          generalize appE s m (secL gen m l) = E at *
          generalize appS s m (secL gen m l) = s2 at *
          go_wp2_with fail
          refine ha.mono ?_
          rintro e w2 ⟨rfl, _, ρ2, h2, _⟩
          have fin : SkB w d gen l k (.int .i64 ((m : Int) + 1)) w2 := ⟨m + 1, ρ2, s2, by omega, rfl, h2, Q.out⟩
          clear ha h2 Q
          go_wp2_with fail
          exact ⟨fin, by simp [intOf]; omega⟩
      · obtain rfl : m = 62 := by omega
        have gg : 0 < gen ∧ gen < 4294967296 := ⟨hg, g1⟩
        have r1 := says_rep gen g0 g1 hD hS k (by omega) (fun j hj => by rw [skf_some gen l hl50 k j (by omega) (by omega)]; rfl) (.inr (skf_none gen l gg k 62 k (by omega)))
        have HS := Lib.hid hS
        clear hD hS
        go_wp2_with fail
        refine r1.mono ?_
        rintro e w2 ⟨A2, c2, rfl, h2⟩
        have hsub : IntKind.u32.wrap (gen - 1) = gen - 1 := by rw [IntKind.wrap_u32]; omega
        have ha := append_any (gen - 1) k A c l h2 (by omega) (by omega) (by omega) (by omega) hl50 (HR.out.1.chg h2.ch (fun _ _ _ x => x)) HR.out.2
        obtain ⟨q1, q2⟩ := says_app HS.out k (by omega) (secL (gen - 1) k l) (secL_len (gen - 1) k l hl50)
        have HQ := Lib.hid q2
        clear r1 h2 q1 q2 HS
        generalize appE s k (secL (gen - 1) k l) = E1 at *
        generalize appS s k (secL (gen - 1) k l) = s1 at *
        go_wp2_with fail
        refine ha.mono ?_
        rintro e w3 ⟨rfl, _, ρ3, h3, _⟩
        have r2 := says_rep gen g0 g1 h3 HQ.out k (by omega) (fun j hj => by rw [if_neg (by omega), skf_some gen l hl50 k j (by omega) (by omega)]; rfl) (.inr (by rw [if_pos rfl]; exact rec_other hl50 (by omega) ⟨g0, g1⟩ (by omega)))
        clear ha h3 hsub
        go_wp2_with fail
        refine r2.mono ?_
        rintro e w4 ⟨A4, c4, rfl, h4⟩
        have ha := append_any gen k A c l h4 g0 g1 (by omega) (by omega) hl50 (HR.out.1.chg h4.ch (fun _ _ _ x => x)) HR.out.2
        obtain ⟨q1, q2⟩ := says_app HQ.out k (by omega) (secL gen k l) (secL_len gen k l hl50)
        have HQ2 := Lib.hid q2
        clear r2 h4 q1 q2 HQ
        generalize appE s1 k (secL gen k l) = E2 at *
        generalize appS s1 k (secL gen k l) = s2 at *
        go_wp2_with fail
        refine ha.mono ?_
        rintro e w5 ⟨rfl, _, ρ5, h5, _⟩
        have r3 := says_rep gen g0 g1 h5 HQ2.out 62 (by omega) (fun j hj => by
          by_cases c : j = k
          · rw [if_pos c, c, rec_sec gen k l hl50]; rfl
          · rw [if_neg c, if_neg c, skf_some gen l hl50 k j hj c]; rfl) (.inr (by rw [if_neg (by omega), if_neg (by omega)]; exact skf_none gen l gg k 62 62 (by omega)))
        clear ha h5 HQ2
        go_wp2_with fail
        refine r3.mono ?_
        rintro e w6 ⟨A6, c6, rfl, h6⟩
        have H := Lib.hid h6.ch
        clear r3 h6
        go_wp2_with fail
        refine (answers4 _).mono ?_
        rintro e w7 ⟨rfl, hC⟩
        have fin : True1 w (.returned (.bool true)) w7 := ⟨rfl, H.out.trans hC (fun _ _ x => x)⟩
        clear hC H HR
        go_wp2_with fail
        go_ret
        exact fin
theorem u32b4 {n : Int} (h : (Lit.int .u32 n).wf = true) : 0 ≤ n ∧ n < 4294967296 := by
  simp only [Lit.wf, Bool.and_eq_true, decide_eq_true_eq] at h
  have e1 : IntKind.u32.min = 0 := rfl
  have e2 : IntKind.u32.max = 4294967295 := rfl
  omega
theorem logSkips_row (a0 a1 : Int) (a2 : Option Addr) (len2 cap2 : Nat) (z2 : List Int) (W : World) (w0 : (Lit.int .u8 a0).wf = true) (w1 : (Lit.int .u32 a1).wf = true) (w2 : IsRow .u8 W a2 len2 cap2 z2) (y2 : len2 * 1 ≤ 140737488351232) :
    Calls Try.prog 4 #[.int .u8 a0, .int .u32 a1, .slice a2 len2 cap2] W fun e w' => e = .returned (.bool true) ∧ Below W.heap.size W w' := by
  obtain ⟨h1, h2, h3, h4⟩ := rd_of_row w2 (by omega)
  have := logSkips a0 a1 a2 cap2 (z2.take len2) W (u8b4 w0).1 (u8b4 w0).2 (u32b4 w1).1 (u32b4 w1).2 h1 (fun x hx => by have := u8b4 (h4 x hx); omega)
  rw [h2] at this
  exact this.mono fun _ _ h => h.row
end Go.Proofs.Ytfjldlhboaeemaa.Log
