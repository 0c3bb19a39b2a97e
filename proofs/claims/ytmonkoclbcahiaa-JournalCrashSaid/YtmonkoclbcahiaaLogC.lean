/- The log: Append. -/
import Derived.Test.YtmonkoclbcahiaaLogB
namespace Go.Proofs.Ytmonkoclbcahiaa.Log
open Go.RowKit Go.Proofs.Ytmonkoclbcahiaa.Hp Go.Proofs.Ytmonkoclbcahiaa.By Go.Proofs.Ytmonkoclbcahiaa.Disk Go.Proofs.Ytmonkoclbcahiaa.Word Go.Proofs.Ytmonkoclbcahiaa.WordP
set_option linter.unusedVariables false
set_option linter.unusedSimpArgs false
def appE (s : DSt) (n : Int) (l : List Int) : Int := if s.wrE n l.length = 0 then (s.wr n l).flE else s.wrE n l.length
def appS (s : DSt) (n : Int) (l : List Int) : DSt := if s.wrE n l.length = 0 then (s.wr n l).fl else s.wr n l
def AppPost (w0 w : World) (d : Nat) (ρ : Nat → Nat) (E : Int) (s : DSt) (e : Ending) (w' : World) : Prop :=
  e = .returned (.int .i64 E) ∧ Chg (Own ρ) w w' ∧ ∃ ρ', DL w0 w' d ρ' s ∧ ∀ i, i < w.heap.size → ρ i = 0 → ρ' i = 0
theorem app_bad (P : Option Addr) (gen n : Int) (A : Option Addr) (len c : Nat) (w : World) (hlen : len ≤ 140737488351232) (h : P = none ∨ 50 < len ∨ n < 0 ∨ 63 < n) :
    Calls Try.prog 44 #[.pointer P, .int .u32 gen, .int .i64 n, .slice A len c] w fun e w' => e = .returned (.int .i64 1) ∧ w = w' := by
  cases P with
  | none =>
    clear h
    go_enter Try.func44, Try.ntmps44
    go_wp2_with fail
    go_ret
    exact ⟨rfl, rfl⟩
  | some ad =>
    have h2 : 50 < len ∨ n < 0 ∨ 63 < n := h.resolve_left (by simp)
    clear h
    by_cases c1 : 50 < len
    · clear h2
      go_enter Try.func44, Try.ntmps44
      go_wp2_with fail
      go_ret
      exact ⟨rfl, rfl⟩
    · by_cases c2 : n < 0
      · clear h2
        go_enter Try.func44, Try.ntmps44
        go_wp2_with fail
        go_ret
        exact ⟨rfl, rfl⟩
      · have c3 : 64 ≤ n := by omega
        have c2' : 0 ≤ n := by omega
        clear h2 c2
        go_enter Try.func44, Try.ntmps44
        go_wp2_with fail
        go_ret
        exact ⟨rfl, rfl⟩
set_option maxRecDepth 100000 in
set_option maxHeartbeats 2000000 in
theorem append_any {w0 w : World} {d : Nat} {ρ : Nat → Nat} {s : DSt} (gen n : Int) (A : Option Addr) (c : Nat) (l : List Int) (h : DL w0 w d ρ s) (g0 : 0 ≤ gen) (g1 : gen < 4294967296) (n0 : 0 ≤ n) (n1 : n ≤ 63) (hl : l.length ≤ 50) (hr : Rd w .u8 A l) (hb : Bytes l) :
    Calls Try.prog 44 #[.pointer (some ⟨d, 0, none⟩), .int .u32 gen, .int .i64 n, .slice A l.length c] w (AppPost w0 w d ρ (appE s n (secL gen n l)) (appS s n (secL gen n l))) := by
  have sc := sector_any gen n A c l w g0 g1 n0 n1 hl hr hb
  have slen := secL_len gen n l hl
  have sby := secL_bytes gen n l hb
  generalize secL gen n l = S at *
  have H := Lib.hid (And.intro h (And.intro slen sby))
  have c1 : decide (64 ≤ n) = false := by simp; omega
  have c2 : decide (n < 0) = false := by simp; omega
  have c3 : decide (50 < (l.length : Int)) = false := by simp; omega
  clear h slen sby hr hb
  go_enter Try.func44, Try.ntmps44
  go_wp2_with fail
  refine sc.mono ?_
  rintro e w1 ⟨v, g, rfl, hrow, hg, hC⟩
  have h1 := H.out.1.keep hC
  have hz : ρ g = 0 := by
    obtain ⟨_, _, _, _, _, _, _, hp⟩ := H.out.1.at_
    exact hp.rz g hg
  have hrd := hrow.rd
  obtain ⟨cp, C, rfl, _⟩ := hrow.2.2
  have hw := l_write n (some ⟨g, 0, none⟩) cp S h1 (fun x hx => by have := H.out.2.2 x hx; omega) hrd (fun _ ad e x => x (by have := Option.some.inj e; subst this; exact hz))
  rw [H.out.2.1] at hw
  clear sc hrow hrd
  have HC := Lib.hid (And.intro hC h1)
  clear hC h1
  go_wp2_with fail
  refine hw.mono ?_
  rintro e w2 ⟨rfl, hc2, ρ2, h2, hr2⟩
  rw [H.out.2.1]
  have hsz := HC.out.1.size
  have r2 : ∀ i, i < w.heap.size → ρ i = 0 → ρ2 i = 0 := fun i hi h0 => hr2 i (by omega) h0
  have hct : Chg (Own ρ) w w2 := (HC.out.1.mono (S' := Own ρ) (fun _ _ x => x.elim)).trans hc2 (fun _ _ x => x)
  by_cases e0 : s.wrE n 64 = 0
  · have hfl := l_flush h2
    rw [e0]
    have EE : appE s n S = (s.wr n S).flE ∧ appS s n S = (s.wr n S).fl := by
      unfold appE appS; rw [H.out.2.1, if_pos e0, if_pos e0]; exact ⟨rfl, rfl⟩
    have RR := Lib.hid (And.intro r2 (And.intro hct EE))
    clear hw h2 hc2 hr2 hct r2 EE HC H e0
    go_wp2_with fail
    refine hfl.mono ?_
    rintro e w3 ⟨rfl, hc3, ρ3, h3, hr3⟩
    have fin : AppPost w0 w d ρ (appE s n S) (appS s n S) (.returned (.int .i64 (s.wr n S).flE)) w3 := by
      rw [RR.out.2.2.1, RR.out.2.2.2]
      refine ⟨rfl, RR.out.2.1.trans hc3 (fun i hi x => ?_), ρ3, h3, fun i hi h0 => ?_⟩
      · intro h0; exact x (RR.out.1 i hi h0)
      · have := RR.out.1 i hi h0
        by_cases c : ρ3 i = 0
        · exact c
        · exact absurd this ((hr3 i).mp c)
    clear hfl h3 hc3 hr3 RR
    go_wp2_with fail
    go_ret
    exact fin
  · have EE : appE s n S = s.wrE n 64 ∧ appS s n S = s.wr n S := by
      unfold appE appS; rw [H.out.2.1, if_neg e0, if_neg e0]; exact ⟨rfl, rfl⟩
    have fin : AppPost w0 w d ρ (appE s n S) (appS s n S) (.returned (.int .i64 (s.wrE n 64))) w2 := by
      rw [EE.1, EE.2]
      exact ⟨rfl, hct, ρ2, h2, r2⟩
    have hne : (s.wrE n 64 != 0) = true := by rw [bne_iff_ne]; exact e0
    clear hw h2 hc2 hr2 hct r2 EE HC H e0
    generalize appE s n S = E2 at *
    generalize appS s n S = S2 at *
    generalize s.wrE n 64 = E at *
    go_wp2_with fail
    go_ret
    exact fin
end Go.Proofs.Ytmonkoclbcahiaa.Log
