/- The statements of chapter 8 (first part): answers, RunsNone, RunsHalves. -/
import Derived.Test.YtilameppdnmgdaaRunsB
import Derived.OpenShut
namespace Go.Proofs.Ytilameppdnmgdaa.Runs
open Go.RowKit Go.Proofs.Ytilameppdnmgdaa.Hp
set_option linter.unusedVariables false
set_option linter.unusedSimpArgs false
/-- A new block of whole numbers, read. -/
theorem rd_new (w : World) (xs : List Int) (hx : xs.length ≤ 1000) (C : Array Value) (hC : C = (xs.map (Value.int .i64)).toArray) : Rd (w.alloc (.cells C 3)) .i64 (some ⟨w.heap.size, 0, none⟩) xs := by
  refine ⟨by omega, fun _ => ⟨_, rfl, fun j hj => ?_⟩⟩
  have hb : Blk (w.alloc (.cells C 3)) w.heap.size C 3 := bnew w _
  have e : (⟨w.heap.size, 0, none⟩ : Addr).add j = ⟨w.heap.size, j, none⟩ := by unfold Addr.add; split <;> simp_all
  rw [e, bcell hb, hC]; simp [hj]
theorem off_new (n m : Nat) (h : n ≠ m) : Off (some ⟨n, 0, none⟩) (· = m) := fun ad e => by have := (Option.some.inj e).symm; subst this; exact h
theorem rd_new' (w : World) (g : Nat) (hg : g = w.heap.size) (xs : List Int) (hx : xs.length ≤ 1000) (C : Array Value) (hC : C = (xs.map (Value.int .i64)).toArray) : Rd (w.alloc (.cells C 3)) .i64 (some ⟨g, 0, none⟩) xs := by
  subst hg; exact rd_new w xs hx C hC
def TrueB (w : World) (e : Ending) (w' : World) : Prop := e = .returned (.bool true) ∧ Chg NoB w w'
theorem TrueB.below {w : World} {e : Ending} {w' : World} (h : TrueB w e w') : e = .returned (.bool true) ∧ Below w.heap.size w w' := ⟨h.1, h.2.below (Nat.le_refl _) (fun i hi => absurd hi (fun x => x))⟩
def ansL : List Int := [0, 1, 1, 1, 1, 1, 0, 0, 0]
theorem ans_run (f : Nat) (ok : Bool) (h : RunSpec ansL 2 0 9 f ok) : f = 2 ∧ ok = true := by
  have h3 : ∀ k, k < 2 → ansL.getD (2 + k) 0 = 1 := by
    intro k hk
    have : k = 0 ∨ k = 1 := by omega
    rcases this with rfl | rfl <;> rfl
  have h2 : IsRun ansL 2 0 9 2 := ⟨rfl, by omega, by omega, by decide, h3⟩
  rcases h with ⟨rfl, h1, hm⟩ | ⟨rfl, rfl, hn⟩
  · refine ⟨?_, rfl⟩
    have h0 : ¬ 2 < f := fun hh => hm 2 hh h2
    have he := h1.1
    have : f = 0 ∨ f = 2 := by omega
    rcases this with rfl | rfl
    · have := h1.2.2.2.2 0 (by omega)
      simp [ansL] at this
    · rfl
  · exact absurd h2 (hn 2)
set_option maxHeartbeats 2000000 in
theorem answers (w : World) : Calls Try.prog 17 #[] w (TrueB w) := by
  go_enter Try.func17, Try.ntmps17
  go_wp2_with fail
  refine (new_any 9 _).mono ?_
  rintro e w1 ⟨b, bi, rfl, hR, hb, hbi, hC⟩
  rw [show clampF 9 = 9 from rfl] at hR
  go_wp2_with fail
  have hlt := blt hR.xs
  refine (add_any b bi _ _ 5 [1, 2, 3, 4, 5] _ (hR.chg ((Chg.refl NoB w1).alloc _) (fun x => x) (fun x => x)) (rd_new w1 _ (by decide) _ rfl) (fun _ => off_new _ _ (by omega))).mono ?_
  rintro e w2 ⟨rfl, hR2, hC2⟩
  have hL : putL 1 (List.replicate 9 0) [1, 2, 3, 4, 5] = ansL := by decide
  rw [hL] at hR2
  have C2 : Chg NoB w w2 := (hC.alloc _).trans hC2 (fun i hi hh => by subst hh; omega)
  clear hC2 hR hC hL
  go_wp2_with fail
  refine (run_yes b bi ansL 1 (by omega) 0 9 _ hR2).mono ?_
  rintro e w3 ⟨f, ok, rfl, hs, hC3⟩
  obtain ⟨rfl, rfl⟩ := ans_run f ok hs
  have hR3 := hR2.chg hC3 (fun x => x) (fun x => x)
  have C3 : Chg NoB w w3 := C2.trans hC3 (fun i hi hh => hh)
  clear hs hC3 C2 hR2
  go_wp2_with fail
  refine (count_yes b bi ansL _ hR3).mono ?_
  rintro e w4 ⟨rfl, hC4⟩
  rw [show (idx ansL ansL.length).length = 5 from by decide]
  have hR4 := hR3.chg hC4 (fun x => x) (fun x => x)
  have C4 : Chg NoB w w4 := C3.trans hC4 (fun i hi hh => hh)
  clear hR3 hC4 C3
  go_wp2_with fail
  refine (has_any b bi ansL 1 _ hR4).mono ?_
  rintro e w5 ⟨rfl, rfl⟩
  rw [show hasB ansL 1 = true from by decide]
  go_wp2_with fail
  go_ret
  exact ⟨rfl, C4⟩
theorem put_nil (v : Int) (A : Option Addr) (c : Nat) (F : List Int) (w : World) (hF : Rd w .i64 A F) :
    Calls Try.prog 35 #[.pointer none, .int .u8 v, .slice A F.length c] w fun e w' => e = .returned (.tuple #[]) ∧ w = w' := by
  have hlen := hF.1
  go_enter Try.func35, Try.ntmps35
  go_wp2
  go_loop [10] (fun i => ∃ k : Nat, k ≤ F.length ∧ i = .int .i64 k) (fun i => F.length - (intOf i).toNat)
  case atStart => exact ⟨0, by omega, rfl⟩
  case round =>
    obtain ⟨k, hk, rfl⟩ := hrel
    by_cases hlt : k < F.length
    · obtain ⟨ad, rfl, hc⟩ := hF.at_ k hlt
      generalize F.getD k 0 = f at *
      clear hF
      go_wp2
      go_round
      case rel => exact ⟨k + 1, by omega, rfl⟩
      case measure => simp [intOf]; omega
    · obtain rfl : k = F.length := by omega
      clear hF
      go_wp2
      go_end0
      exact ⟨rfl, rfl⟩
theorem add_nil (A : Option Addr) (c : Nat) (F : List Int) (w : World) (hF : Rd w .i64 A F) :
    Calls Try.prog 19 #[.pointer none, .slice A F.length c] w fun e w' => e = .returned (.tuple #[]) ∧ w = w' := by
  go_enter Try.func19, Try.ntmps19
  go_wp2_with fail
  refine (put_nil 1 A c F _ hF).mono ?_
  rintro e w1 ⟨rfl, rfl⟩
  go_wp2_with fail
  go_end0
  exact ⟨rfl, rfl⟩
theorem drop_nil (A : Option Addr) (c : Nat) (F : List Int) (w : World) (hF : Rd w .i64 A F) :
    Calls Try.prog 22 #[.pointer none, .slice A F.length c] w fun e w' => e = .returned (.tuple #[]) ∧ w = w' := by
  go_enter Try.func22, Try.ntmps22
  go_wp2_with fail
  refine (put_nil 0 A c F _ hF).mono ?_
  rintro e w1 ⟨rfl, rfl⟩
  go_wp2_with fail
  go_end0
  exact ⟨rfl, rfl⟩
set_option maxHeartbeats 2000000 in
theorem runsNone (n : Int) (w : World) : Calls Try.prog 6 #[.int .i64 n] w (TrueB w) := by
  go_enter Try.func6, Try.ntmps6
  go_wp2_with fail
  refine (add_nil _ 1 [n] _ (rd_new w [n] (by simp) _ rfl)).mono ?_
  rintro e w1 ⟨rfl, rfl⟩
  go_wp2_with fail
  refine (drop_nil (some ⟨w.heap.size + 1, 0, none⟩) 1 [n] _ (rd_new' (w.alloc (.cells #[.int .i64 n] 3)) (w.heap.size + 1) (by simp) [n] (by simp) _ rfl)).mono ?_
  rintro e w2 ⟨rfl, rfl⟩
  have C2 : Chg NoB w ((w.alloc (.cells #[.int .i64 n] 3)).alloc (.cells #[.int .i64 n] 3)) := ((Chg.refl _ _).alloc _).alloc _
  go_wp2_with fail
  refine (run_bad none 0 0 9 _ (.inl rfl)).mono ?_
  rintro e w3 ⟨rfl, rfl⟩
  go_wp2_with fail
  refine (answers _).mono ?_
  rintro e w4 ⟨rfl, hC4⟩
  have C4 : Chg NoB w w4 := C2.trans hC4 (fun i hi hh => hh)
  clear C2 hC4
  go_wp2_with fail
  refine (has_nil n _).mono ?_
  rintro e w5 ⟨rfl, rfl⟩
  go_wp2_with fail
  refine (count_nil _).mono ?_
  rintro e w5 ⟨rfl, rfl⟩
  go_wp2_with fail
  refine (all_nil _).mono ?_
  rintro e w5 ⟨rfl, rfl⟩
  go_wp2_with fail
  go_ret
  exact ⟨rfl, C4⟩
theorem halves_key (L : List Int) (hl : L.length ≤ 1024) (s f g : Nat) (ok yes : Bool) (h2 : RunSpec L (2 * s) 0 1024 f ok) (h1 : RunSpec L s 0 1024 g yes) : ok = false ∨ (yes = true ∧ g ≤ f) := by
  rcases h2 with ⟨rfl, hr, _⟩ | ⟨rfl, _⟩
  · right
    have hr1 : IsRun L s 0 1024 f := by
      obtain ⟨a1, a2, a3, a4, a5⟩ := hr
      refine ⟨?_, a2, by omega, by omega, fun k hk => a5 k (by omega)⟩
      have := Nat.div_add_mod f (2 * s)
      rw [a1, Nat.add_zero, Nat.mul_assoc, Nat.mul_left_comm] at this
      rw [← this]; exact Nat.mul_mod_right _ _
    rcases h1 with ⟨rfl, _, hm⟩ | ⟨rfl, _, hn⟩
    · refine ⟨rfl, ?_⟩
      by_cases c : g ≤ f
      · exact c
      · exact absurd hr1 (hm f (by omega))
    · exact absurd hr1 (hn f)
  · exact .inl rfl
set_option maxHeartbeats 4000000 in
theorem runsHalves (A : Option Addr) (c : Nat) (F : List Int) (o : Int) (w : World) (h0 : 0 ≤ o) (h1 : o ≤ 255) (hF : Rd w .i64 A F) : Calls Try.prog 4 #[.slice A F.length c, .int .u8 o] w (TrueB w) := by
  have hlen := hF.1
  by_cases big : 300 < F.length
  · have hb : decide ((300 : Int) < (F.length : Int)) = true := by apply decide_eq_true; omega
    go_enter Try.func4, Try.ntmps4
    go_wp2_with fail
    refine (answers _).mono ?_
    rintro e w1 ⟨rfl, hC⟩
    go_wp2_with fail
    go_ret
    exact ⟨rfl, hC⟩
  · have hb : decide ((300 : Int) < (F.length : Int)) = false := by apply decide_eq_false; omega
    obtain ⟨k, hk⟩ := Int.eq_ofNat_of_zero_le (show 0 ≤ o % 5 by omega)
    have hk5 : k < 5 := by omega
    go_enter Try.func4, Try.ntmps4
    go_wp2_with fail
    refine (new_any 1024 _).mono ?_
    rintro e w1 ⟨b, bi, rfl, hR, hbb, hbi, hC⟩
    rw [show clampF 1024 = 1024 from rfl] at hR
    have hL0 : (List.replicate 1024 (0 : Int)).length = 1024 := List.length_replicate
    generalize List.replicate 1024 (0 : Int) = L0 at *
    go_wp2_with fail
    refine (add_any b bi _ A c F _ hR (hF.chg hC (fun _ _ _ x => x)) (hF.old (fun i hi => by subst hi; exact hbi))).mono ?_
    rintro e w2 ⟨rfl, hR2, hC2⟩
    have hl : (putL 1 L0 F).length = 1024 := by rw [putL_length, hL0]
    generalize putL 1 L0 F = L at *
    have C2 : Chg NoB w w2 := hC.trans hC2 (fun i hi hh => by subst hh; omega)
    clear hC2 hR hC hF hL0
    have HK := Lib.hid hk
    clear hk
    go_wp2_with fail
    rw [show o % 5 + 1 = ((k + 1 : Nat) : Int) from by have := HK.out; omega]
    refine (run_yes b bi L (k + 1) (by omega) 0 1024 _ hR2).mono ?_
    rintro e w3 ⟨f, ok, rfl, hs, hC3⟩
    have hR3 := hR2.chg hC3 (fun x => x) (fun x => x)
    have C3 : Chg NoB w w3 := C2.trans hC3 (fun i hi hh => hh)
    clear hC3 C2 hR2
    have HS := Lib.hid hs
    clear hs
    go_wp2_with fail
    rw [show o % 5 = (k : Int) from HK.out]
    refine (run_yes b bi L k (by omega) 0 1024 _ hR3).mono ?_
    rintro e w4 ⟨g, yes, rfl, hs4, hC4⟩
    have C4 : Chg NoB w w4 := C3.trans hC4 (fun i hi hh => hh)
    have key := halves_key L (by omega) (2 ^ k) f g ok yes (by have := HS.out; rwa [Nat.pow_succ, Nat.mul_comm] at this) hs4
    clear hC4 C3 hR3 hs4 HS
    go_wp2_with fail
    refine (answers _).mono ?_
    rintro e w5 ⟨rfl, hC5⟩
    have C5 : Chg NoB w w5 := C4.trans hC5 (fun i hi hh => hh)
    clear hC5 C4
    rcases key with rfl | ⟨rfl, hgf⟩
    · go_wp2_with fail
      go_ret
      exact ⟨rfl, C5⟩
    · have hd : decide ((g : Int) ≤ (f : Int)) = true := by apply decide_eq_true; omega
      cases ok
      · go_wp2_with fail
        go_ret
        exact ⟨rfl, C5⟩
      · go_wp2_with fail
        go_ret
        exact ⟨rfl, C5⟩
theorem runsNone_row (n : Int) (W : World) (w0 : (Lit.int .i64 n).wf = true) : Calls Try.prog 6 #[.int .i64 n] W fun e w' => e = .returned (.bool true) ∧ Below W.heap.size W w' :=
  (runsNone n W).mono fun _ _ h => h.below
theorem runsHalves_row (a0 : Option Addr) (len0 cap0 : Nat) (z0 : List Int) (a1 : Int) (W : World) (w0 : IsRow .i64 W a0 len0 cap0 z0) (y0 : len0 * 8 ≤ 140737488351232) (w1 : (Lit.int .u8 a1).wf = true) :
    Calls Try.prog 4 #[.slice a0 len0 cap0, .int .u8 a1] W fun e w' => e = .returned (.bool true) ∧ Below W.heap.size W w' := by
  obtain ⟨h1, h2, h3, h4⟩ := rd_of_row w0 (by omega)
  have hb := bounds_u8 w1
  have := runsHalves a0 cap0 (z0.take len0) a1 W hb.1 hb.2 h1
  rw [h2] at this
  exact this.mono fun _ _ h => h.below
end Go.Proofs.Ytilameppdnmgdaa.Runs
