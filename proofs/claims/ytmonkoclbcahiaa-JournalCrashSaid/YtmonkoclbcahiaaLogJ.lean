/- The reference's SameAll. -/
import Derived.Test.YtmonkoclbcahiaaLogI
import Derived.Test.YtmonkoclbcahiaaSame
import Derived.Deep.RegionHeld3
namespace Go.Proofs.Ytmonkoclbcahiaa.Log
open Go.RowKit Go.Proofs.Ytmonkoclbcahiaa.Hp Go.Proofs.Ytmonkoclbcahiaa.By Go.Proofs.Ytmonkoclbcahiaa.Disk Go.Proofs.Ytmonkoclbcahiaa.Word Go.Proofs.Ytmonkoclbcahiaa.WordP
set_option linter.unusedVariables false
set_option linter.unusedSimpArgs false
/-- a slice of slices of bytes -/
def Rows (w : World) (A : Option Addr) (ps : List (List Int)) : Prop :=
  ∀ j, j < ps.length → ∃ ad B c, A = some ad ∧ w.cell? (ad.add j) = some (.slice B (ps.getD j []).length c) ∧ Rd w .u8 B (ps.getD j [])
theorem Rows.keep {w w' : World} {A : Option Addr} {ps : List (List Int)} (h : Rows w A ps) (hc : Chg NoB w w') : Rows w' A ps := fun j hj => by
  obtain ⟨ad, B, c, e, h1, h2⟩ := h j hj
  exact ⟨ad, B, c, e, hc.cell h1 (fun x => x), h2.chg hc (fun _ _ _ x => x)⟩
def SARel (ps qs : List (List Int)) (w : World) (i : Value) (wr : World) : Prop := ∃ k : Nat, k ≤ ps.length ∧ i = .int .i64 k ∧ ps.take k = qs.take k ∧ Chg NoB w wr
theorem takeL_succ (xs : List (List Int)) (j : Nat) (h : j < xs.length) : xs.take (j + 1) = xs.take j ++ [xs.getD j []] := by
  rw [List.take_add_one]
  simp [h]
set_option maxRecDepth 100000 in
set_option maxHeartbeats 1000000 in
theorem sameAll_any (A1 A2 : Option Addr) (c1 c2 : Nat) (ps qs : List (List Int)) (w : World) (h1 : Rows w A1 ps) (h2 : Rows w A2 qs) (b1 : ps.length ≤ 140737488351232) (b2 : qs.length ≤ 140737488351232) :
    Calls Try.prog 29 #[.slice A1 ps.length c1, .slice A2 qs.length c2] w (RetB (decide (ps = qs)) w) := by
  by_cases hl : ps.length = qs.length
  · obtain ⟨m, hm⟩ : ∃ m, m = ps.length := ⟨_, rfl⟩
    have hq : qs.length = m := by omega
    rw [← hm, hq]
    have HL := Lib.hid (And.intro hm.symm hq)
    have bm : m ≤ 140737488351232 := by omega
    generalize hB : decide (ps = qs) = B
    have HB := Lib.hid hB
    clear hl hm hq hB b1 b2
    go_enter Try.func29, Try.ntmps29
    go_wp2_with fail
    go_loopw [5] (fun i wr => SARel ps qs w i wr) (fun i wr => (m - intOf i).toNat)
    case atStart => exact ⟨0, by omega, rfl, by simp, Chg.refl _ _⟩
    case round =>
      obtain ⟨k, hk, rfl, ht, hC⟩ := hrel
      have hk2 : k ≤ m := by have := HL.out.1; omega
      clear hk
      by_cases hlt : k < m
      · have hltp : k < ps.length := by have := HL.out.1; omega
        have hlt2 : k < qs.length := by have := HL.out.2; omega
        obtain ⟨ad1, B1, e1, rfl, x1, r1⟩ := (h1.keep hC) k hltp
        obtain ⟨ad2, B2, e2, rfl, x2, r2⟩ := (h2.keep hC) k hlt2
        have st : ∀ w', Chg NoB wr w' → (ps.getD k [] = qs.getD k []) → SARel ps qs w (.int .i64 ((k : Int) + 1)) w' := fun w' hc he => ⟨k + 1, hltp, rfl, by rw [takeL_succ ps k hltp, takeL_succ qs k hlt2, ht, he], hC.trans hc (fun _ _ x => x)⟩
        have no : ∀ w', Chg NoB wr w' → (ps.getD k [] ≠ qs.getD k []) → RetB B w (.returned (.bool false)) w' := fun w' hc hne => ⟨by rw [← HB.out, decide_eq_false (fun e => hne (by rw [e]))], hC.trans hc (fun _ _ x => x)⟩
        have sm := same_any B1 B2 e1 e2 (ps.getD k []) (qs.getD k []) wr.drew (r1.chg ((Chg.refl NoB wr).drew) (fun _ _ _ x => x)) (r2.chg ((Chg.refl NoB wr).drew) (fun _ _ _ x => x))
        have HS := Lib.hid (And.intro st no)
        clear st no r1 r2 hC ht h1 h2 hltp hlt2
        generalize ps.getD k [] = p at *
        generalize qs.getD k [] = q at *
        by_cases he : p = q
        · rw [decide_eq_true he] at sm
          have HE := Lib.hid he
          clear he
          go_wp2_with fail
          go_region_held3 (fun w' => w'.cell? (ad1.add k) = some (.slice B1 p.length e1) ∧ w'.cell? (ad2.add k) = some (.slice B2 q.length e2)) (first | go_keep | exact ⟨hC2.cell x1 (fun x => x), hC2.cell x2 (fun x => x)⟩)
            (first | (go_at_call 19; ((with_reducible refine sm.mono ?_); rintro e w2 ⟨rfl, hC2⟩)))
          have fin := HS.out.1 w2 (((Chg.refl NoB wr).drew).trans hC2 (fun _ _ x => x)) HE.out
          clear hC2 sm x1 x2 HS
          go_wp2_with fail
          exact ⟨fin, by simp [intOf]; omega⟩
        · rw [decide_eq_false he] at sm
          have HE := Lib.hid he
          clear he
          go_wp2_with fail
          go_region_held3 (fun w' => w'.cell? (ad1.add k) = some (.slice B1 p.length e1) ∧ w'.cell? (ad2.add k) = some (.slice B2 q.length e2)) (first | go_keep | exact ⟨hC2.cell x1 (fun x => x), hC2.cell x2 (fun x => x)⟩)
            (first | (go_at_call 19; ((with_reducible refine sm.mono ?_); rintro e w2 ⟨rfl, hC2⟩)))
          have fin := HS.out.2 w2 (((Chg.refl NoB wr).drew).trans hC2 (fun _ _ x => x)) HE.out
          clear hC2 sm x1 x2 HS
          go_wp2_with fail
          go_ret
          exact fin
      · have fin : RetB B w (.returned (.bool true)) wr := by
          have e1 : ps.take k = ps := List.take_of_length_le (by have := HL.out.1; omega)
          have e2 : qs.take k = qs := List.take_of_length_le (by have := HL.out.2; omega)
          rw [e1, e2] at ht
          exact ⟨by rw [← HB.out, decide_eq_true ht], hC⟩
        obtain rfl : k = m := by omega
        clear hC ht h1 h2
        go_wp2_with fail
        go_ret
        exact fin
  · have hlb : ((ps.length : Int) != (qs.length : Int)) = true := by rw [bne_iff_ne]; omega
    have fin : RetB (decide (ps = qs)) w (.returned (.bool false)) w := ⟨by rw [decide_eq_false (fun e => hl (by rw [e]))], Chg.refl _ _⟩
    clear hl h1 h2
    generalize decide (ps = qs) = B at *
    go_enter Try.func29, Try.ntmps29
    go_wp2_with fail
    go_ret
    exact fin
end Go.Proofs.Ytmonkoclbcahiaa.Log
