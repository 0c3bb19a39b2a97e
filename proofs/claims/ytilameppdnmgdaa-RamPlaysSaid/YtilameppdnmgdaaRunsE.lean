/- Runs of frames: what the reference's functions do: Ints, Cut, Run. -/
import Derived.Test.YtilameppdnmgdaaRunsB
import Derived.OpenShut
import Derived.Deep.QuietTactic
import Derived.BigQuiet
namespace Go.Proofs.Ytilameppdnmgdaa.Runs
open Go.RowKit Go.Proofs.Ytilameppdnmgdaa.Hp
set_option linter.unusedVariables false
set_option linter.unusedSimpArgs false
theorem cut_1024 (n : Int) (w : World) : Calls Try.prog 21 #[.int .i64 n, .int .i64 0, .int .i64 1024] w fun e w' => e = .returned (.int .i64 (clampF n)) ∧ w = w' := by
  by_cases h1 : n < 0
  · rw [show clampF n = 0 from by unfold clampF; rw [if_pos h1]]
    go_enter Try.func21, Try.ntmps21
    go_wp2
    go_ret
    exact ⟨rfl, rfl⟩
  · by_cases h2 : 1024 < n
    · rw [show clampF n = 1024 from by unfold clampF; rw [if_neg h1, if_pos h2]]
      go_enter Try.func21, Try.ntmps21
      go_wp2
      go_ret
      exact ⟨rfl, rfl⟩
    · have e : ((clampF n : Nat) : Int) = n := by unfold clampF; rw [if_neg h1, if_neg h2]; omega
      rw [e]
      clear e
      go_enter Try.func21, Try.ntmps21
      go_wp2
      go_ret
      exact ⟨rfl, rfl⟩
theorem spec_unique (L : List Int) (s : Nat) (fr tt : Int) (f g : Nat) (a b : Bool) (h1 : RunSpec L s fr tt f a) (h2 : RunSpec L s fr tt g b) : f = g ∧ a = b := by
  rcases h1 with ⟨rfl, r1, m1⟩ | ⟨rfl, rfl, n1⟩ <;> rcases h2 with ⟨rfl, r2, m2⟩ | ⟨rfl, rfl, n2⟩
  · refine ⟨?_, rfl⟩
    rcases Nat.lt_trichotomy f g with h | h | h
    · exact absurd r1 (m2 f h)
    · exact h
    · exact absurd r2 (m1 g h)
  · exact absurd r1 (n2 f)
  · exact absurd r2 (n1 g)
  · exact ⟨rfl, rfl⟩
/-- A slice of bools: which numbers are in. -/
def BoolAt (w : World) (g : Nat) (L : List Int) : Prop := Blk w g (L.map (fun x => Value.bool (x == 1))).toArray 4
theorem BoolAt.ci {w : World} {g : Nat} {L : List Int} (h : BoolAt w g L) (i : Nat) (hi : i < L.length) : w.cell? ⟨g, i, none⟩ = some (.bool (L.getD i 0 == 1)) := by
  rw [bcell h]; simp [hi]
def allIn (L : List Int) (i t : Nat) : Bool := decide (∀ u, u < t → L.getD (i + u) 0 = 1)
theorem allIn_succ (L : List Int) (i t : Nat) : allIn L i (t + 1) = (allIn L i t && (L.getD (i + t) 0 == 1)) := by
  unfold allIn
  by_cases h : ∀ u, u < t → L.getD (i + u) 0 = 1
  · rw [decide_eq_true h, Bool.true_and]
    by_cases e : L.getD (i + t) 0 = 1
    · rw [decide_eq_true, e]; · rfl
      intro u hu
      by_cases c : u = t
      · subst c; exact e
      · exact h u (by omega)
    · rw [decide_eq_false (fun x => e (x t (by omega)))]
      exact (beq_eq_false_iff_ne.mpr e).symm
  · rw [decide_eq_false h, Bool.false_and, decide_eq_false]
    exact fun x => h (fun u hu => x u (by omega))
def RRunRel (L : List Int) (s : Nat) (fr tt : Int) (f : Value) : Prop := ∃ i : Nat, f = .int .i64 i ∧ i % s = 0 ∧ i ≤ L.length + s ∧ ∀ g, g < i → ¬ IsRun L s fr tt g
def InnerRel (L : List Int) (s i : Nat) (base : Bool) (v k : Value) : Prop := ∃ t : Nat, t ≤ s ∧ k = .int .i64 ((i + t : Nat) : Int) ∧ v = .bool (base && allIn L i t)
theorem rrun_next (L : List Int) (s : Nat) (hs : 1 ≤ s) (fr tt : Int) (i : Nat) (h0 : i % s = 0) (hl : i + s ≤ L.length) (hm : ∀ g, g < i → ¬ IsRun L s fr tt g) (hno : ¬ IsRun L s fr tt i) : RRunRel L s fr tt (.int .i64 ((i : Int) + s)) := by
  refine ⟨i + s, rfl, by rw [Nat.add_mod_right]; exact h0, by omega, fun g hg hr => ?_⟩
  by_cases c : g < i
  · exact hm g c hr
  · by_cases e : g = i
    · subst e; exact hno hr
    · have h1 := hr.1
      have : g = i + (g - i) := by omega
      rw [this, Nat.add_mod, h0, Nat.zero_add, Nat.mod_mod, Nat.mod_eq_of_lt (by omega)] at h1
      omega
theorem rrun_yesrun (L : List Int) (s : Nat) (fr tt : Int) (i : Nat) (h0 : i % s = 0) (hl : i + s ≤ L.length) (b1 b2 : Bool) (hb1 : decide (fr ≤ (i : Int)) = b1) (hb2 : decide ((i : Int) + s ≤ tt) = b2) : ((b1 && b2) && allIn L i s) = true ↔ IsRun L s fr tt i := by
  subst hb1 hb2
  unfold IsRun allIn
  simp only [Bool.and_eq_true, decide_eq_true_eq]
  constructor
  · rintro ⟨⟨a, b⟩, c⟩; exact ⟨h0, a, b, hl, c⟩
  · rintro ⟨_, a, b, _, c⟩; exact ⟨⟨a, b⟩, c⟩
set_option maxHeartbeats 4000000 in
theorem rrun_yes (g c : Nat) (L : List Int) (o : Nat) (ho : o ≤ 5) (fr tt : Int) (w : World) (h : BoolAt w g L) (hle : L.length ≤ 1024) :
    Calls Try.prog 24 #[.slice (some ⟨g, 0, none⟩) L.length c, .int .i64 o, .int .i64 fr, .int .i64 tt] w (RunPost L (2 ^ o) fr tt w) := by
  have hs1 : 1 ≤ 2 ^ o := Nat.two_pow_pos o
  have hs2 : 2 ^ o ≤ 32 := Nat.pow_le_pow_right (n := 2) (by omega) ho
  have hz : wrap64 (2 ^ o) = ((2 ^ o : Nat) : Int) := by
    have ho' : o = 0 ∨ o = 1 ∨ o = 2 ∨ o = 3 ∨ o = 4 ∨ o = 5 := by omega
    rcases ho' with rfl | rfl | rfl | rfl | rfl | rfl <;> simp [wrap64]
  go_enter Try.func24, Try.ntmps24
  go_wp2_with fail
  rw [hz]
  clear hz
  generalize 2 ^ o = s at *
  go_loop [11] (fun f => RRunRel L s fr tt f) (fun f => (L.length + 1 - intOf f).toNat)
  case atStart => exact ⟨0, rfl, Nat.zero_mod s, by omega, fun g hg => absurd hg (by omega)⟩
  case round =>
    obtain ⟨i, rfl, h0, hi, hm⟩ := hrel
    by_cases hl : i + s ≤ L.length
    · have key := rrun_yesrun L s fr tt i h0 hl _ _ rfl rfl
      by_cases c1 : fr ≤ (i : Int)
      · have d1 : decide (fr ≤ (i : Int)) = true := decide_eq_true c1
        rw [d1, Bool.true_and] at key
        generalize hb2 : decide ((i : Int) + s ≤ tt) = b2 at *
        have fo : (b2 && allIn L i s) = true → RunPost L s fr tt w (.returned (.tuple #[.int .i64 (i : Nat), .bool true])) w := fun hb => ⟨i, true, rfl, .inl ⟨rfl, key.mp hb, hm⟩, Chg.refl _ _⟩
        have ne : ¬ (b2 && allIn L i s) = true → RRunRel L s fr tt (.int .i64 ((i : Int) + s)) := fun hb => rrun_next L s hs1 fr tt i h0 hl hm (fun hr => hb (key.mpr hr))
        have FO := Lib.hid fo
        have NE := Lib.hid ne
        clear fo ne key hm c1
        go_wp2_with fail
        go_loop [12, 13] (fun v k => InnerRel L s i b2 v k) (fun v k => ((i : Int) + s - intOf k).toNat)
        case atStart => exact ⟨0, by omega, rfl, by simp [allIn]⟩
        case round =>
          obtain ⟨t, ht, rfl, rfl⟩ := hrel
          by_cases hlt : t < s
          · have hc := h.ci (i + t) (by omega)
            have st := allIn_succ L i t
            by_cases hb : (b2 && allIn L i t) = true
            · have nx : (b2 && allIn L i (t + 1)) = (L.getD (i + t) 0 == 1) := by rw [st, ← Bool.and_assoc, hb, Bool.true_and]
              have NX := Lib.hid nx
              clear nx st
              generalize (L.getD (i + t) 0 == 1) = y at *
              rw [hb]
              clear hb
              go_wp2_with fail
              exact ⟨⟨t + 1, by omega, rfl, by rw [NX.out]⟩, by simp [intOf]; omega⟩
            · have hb' : (b2 && allIn L i t) = false := Bool.eq_false_iff.mpr hb
              have nx : (b2 && allIn L i (t + 1)) = false := by rw [st, ← Bool.and_assoc, hb', Bool.false_and]
              have NX := Lib.hid nx
              clear nx st hb
              rw [hb']
              clear hb'
              go_wp2_with fail
              exact ⟨⟨t + 1, by omega, rfl, by rw [NX.out]⟩, by simp [intOf]; omega⟩
          · obtain rfl : t = s := by omega
            by_cases hb : (b2 && allIn L i t) = true
            · have fo := FO.out hb
              have F := Lib.hid fo
              clear fo
              rw [hb]
              clear hb
              go_wp2_with fail
              go_ret2
              exact F.out
            · have nx := NE.out hb
              have hb' : (b2 && allIn L i t) = false := Bool.eq_false_iff.mpr hb
              have F := Lib.hid nx
              clear nx hb
              rw [hb']
              clear hb'
              go_wp2_with fail
              exact ⟨F.out, by simp [intOf]; omega⟩
      · have d1 : decide (fr ≤ (i : Int)) = false := decide_eq_false c1
        rw [d1, Bool.false_and] at key
        have fo : (false && allIn L i s) = true → RunPost L s fr tt w (.returned (.tuple #[.int .i64 (i : Nat), .bool true])) w := fun hb => ⟨i, true, rfl, .inl ⟨rfl, key.mp hb, hm⟩, Chg.refl _ _⟩
        have ne : ¬ (false && allIn L i s) = true → RRunRel L s fr tt (.int .i64 ((i : Int) + s)) := fun hb => rrun_next L s hs1 fr tt i h0 hl hm (fun hr => hb (key.mpr hr))
        have FO := Lib.hid fo
        have NE := Lib.hid ne
        clear fo ne key hm c1
        go_wp2_with fail
        go_loop [12, 13] (fun v k => InnerRel L s i false v k) (fun v k => ((i : Int) + s - intOf k).toNat)
        case atStart => exact ⟨0, by omega, rfl, by simp [allIn]⟩
        case round =>
          obtain ⟨t, ht, rfl, rfl⟩ := hrel
          by_cases hlt : t < s
          · have hc := h.ci (i + t) (by omega)
            have st := allIn_succ L i t
            by_cases hb : (false && allIn L i t) = true
            · have nx : (false && allIn L i (t + 1)) = (L.getD (i + t) 0 == 1) := by rw [st, ← Bool.and_assoc, hb, Bool.true_and]
              have NX := Lib.hid nx
              clear nx st
              generalize (L.getD (i + t) 0 == 1) = y at *
              rw [hb]
              clear hb
              go_wp2_with fail
              exact ⟨⟨t + 1, by omega, rfl, by rw [NX.out]⟩, by simp [intOf]; omega⟩
            · have hb' : (false && allIn L i t) = false := Bool.eq_false_iff.mpr hb
              have nx : (false && allIn L i (t + 1)) = false := by rw [st, ← Bool.and_assoc, hb', Bool.false_and]
              have NX := Lib.hid nx
              clear nx st hb
              rw [hb']
              clear hb'
              go_wp2_with fail
              exact ⟨⟨t + 1, by omega, rfl, by rw [NX.out]⟩, by simp [intOf]; omega⟩
          · obtain rfl : t = s := by omega
            by_cases hb : (false && allIn L i t) = true
            · have fo := FO.out hb
              have F := Lib.hid fo
              clear fo
              rw [hb]
              clear hb
              go_wp2_with fail
              go_ret2
              exact F.out
            · have nx := NE.out hb
              have hb' : (false && allIn L i t) = false := Bool.eq_false_iff.mpr hb
              have F := Lib.hid nx
              clear nx hb
              rw [hb']
              clear hb'
              go_wp2_with fail
              exact ⟨F.out, by simp [intOf]; omega⟩
    · have post : RunPost L s fr tt w (.returned (.tuple #[.int .i64 ((0 : Nat) : Int), .bool false])) w := by
        refine ⟨0, false, rfl, .inr ⟨rfl, rfl, fun g hg => ?_⟩, Chg.refl _ _⟩
        by_cases c : g < i
        · exact hm g c hg
        · have := hg.2.2.2.1; omega
      have P := Lib.hid post
      clear post hm h0
      go_wp2_with fail
      go_ret2
      exact P.out
def IntsRel (l1 l2 : List Int) (w : World) (i : Value) (wr : World) : Prop := ∃ k : Nat, k ≤ l1.length ∧ i = .int .i64 k ∧ l1.take k = l2.take k ∧ Chg NoB w wr
def IRet (b : Bool) (w : World) (e : Ending) (w' : World) : Prop := e = .returned (.bool b) ∧ Chg NoB w w'
set_option maxHeartbeats 4000000 in
theorem ints_any (A1 A2 : Option Addr) (c1 c2 : Nat) (l1 l2 : List Int) (w : World) (h1 : Rd w .i64 A1 l1) (h2 : Rd w .i64 A2 l2) :
    Calls Try.prog 25 #[.slice A1 l1.length c1, .slice A2 l2.length c2] w (IRet (decide (l1 = l2)) w) := by
  have b1 := h1.1
  have b2 := h2.1
  by_cases hl : l1.length = l2.length
  · have ht : (((l1.length : Nat) : Int) != (l2.length : Int)) = false := by rw [bne_eq_false_iff_eq]; omega
    have HL := Lib.hid hl
    clear hl
    go_enter Try.func25, Try.ntmps25
    go_wp2_with fail
    go_loopw [5] (fun i wr => IntsRel l1 l2 w i wr) (fun i wr => l1.length - (intOf i).toNat)
    case atStart => exact ⟨0, by omega, rfl, by simp, Chg.refl _ _⟩
    case round =>
      obtain ⟨k, hk, rfl, htk, hC⟩ := hrel
      by_cases hlt : k < l1.length
      · obtain ⟨a1, rfl, hc1⟩ := (h1.chg hC (fun _ _ _ x => x)).at_ k hlt
        obtain ⟨a2, rfl, hc2⟩ := (h2.chg hC (fun _ _ _ x => x)).at_ k (by have := HL.out; omega)
        have n1 := take_succ_getD l1 k hlt
        have n2 := take_succ_getD l2 k (by have := HL.out; omega)
        have go1 : l1.getD k 0 = l2.getD k 0 → ∀ wr', Chg NoB w wr' → IntsRel l1 l2 w (.int .i64 ((k : Int) + 1)) wr' := fun e wr' hh => ⟨k + 1, by omega, rfl, by rw [n1, n2, htk, e], hh⟩
        have no1 : l1.getD k 0 ≠ l2.getD k 0 → ∀ wr', Chg NoB w wr' → IRet (decide (l1 = l2)) w (.returned (.bool false)) wr' := by
          intro e wr' hh
          have : ¬ l1 = l2 := fun x => e (by rw [x])
          rw [decide_eq_false this]
          exact ⟨rfl, hh⟩
        have i1 : (k : Int) < (l1.length : Int) := by omega
        have i2 : (k : Int) < (l2.length : Int) := by have := HL.out; omega
        have G := Lib.hid go1
        have N := Lib.hid no1
        clear go1 no1 n1 n2 htk h1 h2
        generalize l1.getD k 0 = x at *
        generalize l2.getD k 0 = y at *
        by_cases e : x = y
        · have g := G.out e
          have hxy : (x != y) = false := by rw [bne_eq_false_iff_eq]; exact e
          have GG := Lib.hid g
          clear e g G N
          go_wp2_with fail
          go_quiet (fail)
          go_wp2_with fail
          go_roundw
          case rel => exact GG.out _ (hC.drewN _)
          case measure => simp [intOf]; omega
        · have g := N.out e
          have hxy : (x != y) = true := by rw [bne_iff_ne]; exact e
          have GG := Lib.hid g
          clear e g G N
          go_wp2_with fail
          go_quiet (fail)
          go_wp2_with fail
          go_ret
          exact GG.out _ (hC.drewN _)
      · obtain rfl : k = l1.length := by omega
        have e : l1 = l2 := by
          rw [List.take_length] at htk
          rw [htk, List.take_of_length_le (by have := HL.out; omega)]
        have F : IRet (decide (l1 = l2)) w (.returned (.bool true)) wr := by rw [decide_eq_true e]; exact ⟨rfl, hC⟩
        have FF := Lib.hid F
        clear e F htk h1 h2
        go_wp2_with fail
        go_ret
        exact FF.out
  · have ht : (((l1.length : Nat) : Int) != (l2.length : Int)) = true := by rw [bne_iff_ne]; omega
    have F : IRet (decide (l1 = l2)) w (.returned (.bool false)) w := by
      rw [decide_eq_false (fun e => hl (by rw [e]))]; exact ⟨rfl, Chg.refl _ _⟩
    have FF := Lib.hid F
    clear hl F
    go_enter Try.func25, Try.ntmps25
    go_wp2_with fail
    go_ret
    exact FF.out
theorem rrun_bad (A : Option Addr) (L c : Nat) (o fr tt : Int) (w : World) (h : o < 0 ∨ 5 < o) :
    Calls Try.prog 24 #[.slice A L c, .int .i64 o, .int .i64 fr, .int .i64 tt] w fun e w' => e = .returned (.tuple #[.int .i64 0, .bool false]) ∧ w = w' := by
  by_cases h1 : o < 0
  · go_enter Try.func24, Try.ntmps24
    go_wp2
    go_ret2
    exact ⟨rfl, rfl⟩
  · have h2 : 5 < o := by omega
    clear h
    go_enter Try.func24, Try.ntmps24
    go_wp2
    go_ret2
    exact ⟨rfl, rfl⟩
end Go.Proofs.Ytilameppdnmgdaa.Runs
