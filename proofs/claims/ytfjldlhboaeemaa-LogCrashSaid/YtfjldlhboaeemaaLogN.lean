/- Chapter 4: LogReads. -/
import Derived.Test.YtfjldlhboaeemaaLogM
import Derived.Test.YtfjldlhboaeemaaLogF
namespace Go.Proofs.Ytfjldlhboaeemaa.Log
open Go.RowKit Go.Proofs.Ytfjldlhboaeemaa.Hp Go.Proofs.Ytfjldlhboaeemaa.By Go.Proofs.Ytfjldlhboaeemaa.Disk Go.Proofs.Ytfjldlhboaeemaa.Word Go.Proofs.Ytfjldlhboaeemaa.WordP
set_option linter.unusedVariables false
set_option linter.unusedSimpArgs false
def Cm (s : DSt) : Prop := Disk.Calm s ∧ s.n = 192
theorem cm_wr {s : DSt} (h : Cm s) (n : Int) (h0 : 0 ≤ n ∧ n < 192) (l : List Int) : Cm (s.wr n l) := by
  by_cases hl : l.length = 64
  · rw [calm_wr h.1 h0.1 (by rw [h.2]; exact h0.2) hl]
    exact ⟨calm_put h.1 _ _, h.2⟩
  · have : s.wr n l = s := by unfold DSt.wr; rw [if_neg hl]
    rw [this]; exact h
def LdB (w0 : World) (d : Nat) (i : Value) (wr : World) : Prop := ∃ (m : Nat) (ρ : Nat → Nat) (s : DSt), m ≤ 64 ∧ i = .int .i64 m ∧ DL w0 wr d ρ s ∧ Cm s
set_option maxRecDepth 100000 in
set_option maxHeartbeats 1000000 in
theorem logReads (A : Option Addr) (c : Nat) (ps : List (List Int)) (gen : Int) (w : World) (g0 : 0 ≤ gen) (g1 : gen < 4294967296) (hb : ∀ p ∈ ps, ∀ x ∈ p, 0 ≤ x ∧ x ≤ 255) (h : Rows w A ps) (hps : ps.length ≤ 140737488351232) : Calls Try.prog 3 #[.slice A ps.length c, .int .u32 gen] w (True1 w) := by
  by_cases hl : 64 < ps.length
  · clear h hb
    go_enter Try.func3, Try.ntmps3
    go_wp2_with fail
    refine (answers4 _).mono ?_
    rintro e w1 ⟨rfl, hC⟩
    have fin : True1 w (.returned (.bool true)) w1 := ⟨rfl, hC⟩
    clear hC
    go_wp2_with fail
    go_ret
    exact fin
  · have hn : ps.length ≤ 64 := by omega
    have HR := Lib.hid (And.intro h hb)
    clear h hb hl
    go_enter Try.func3, Try.ntmps3
    go_wp2_with fail
    refine (l_new 192 (by omega) (by omega) w).mono ?_
    rintro e w1 ⟨d, ρ, rfl, h1⟩
    have hB : LdB w d (.int .i64 0) w1 := ⟨0, ρ, _, by omega, rfl, h1, calm_new 192, rfl⟩
    clear h1
    go_wp2_with fail
    go_loopw [6] (fun i wr => LdB w d i wr) (fun i wr => (64 - intOf i).toNat)
    case atStart => exact hB
    case round =>
      clear hB
      obtain ⟨m, ρ1, s, hm, rfl, hD, hS⟩ := hrel
      by_cases hlt : m < ps.length
      · obtain ⟨ad, B, cB, rfl, y1, y2⟩ := HR.out.1 m hlt
        have x1 := hD.ch.cell y1 (fun x => x)
        have r1 := y2.chg hD.ch (fun _ _ _ x => x)
        have off : 0 < (ps.getD m []).length → Off B (Own ρ1) := fun hp a e hh => by
          have q1 := y2.lt hp a e
          have q2 := hD.nw _ hh
          omega
        have hw := l_write (m : Int) B cB (ps.getD m []) hD (HR.out.2 _ (by rw [List.getD_eq_getElem?_getD, List.getElem?_eq_getElem hlt]; exact List.getElem_mem _)) r1 off
        have hcm := cm_wr hS m ⟨by omega, by omega⟩ (ps.getD m [])
        have H := Lib.hid hcm
        clear hcm hD hS r1 off y1 y2
        unfold WrAns at hw
        generalize s.wr m (ps.getD m []) = s2 at *
        generalize ps.getD m [] = p at *
        go_wp2_with fail
        refine hw.mono ?_
        rintro e w2 ⟨rfl, _, ρ2, h2, _⟩
        have fin : LdB w d (.int .i64 ((m : Int) + 1)) w2 := ⟨m + 1, ρ2, s2, by omega, rfl, h2, H.out⟩
        clear hw h2 H
        go_wp2_with fail
        exact ⟨fin, by simp [intOf]; omega⟩
      · have hrp := replay_any gen g0 g1 (by rw [hS.2]; decide) hD
        have hρ : ∀ i, Own ρ1 i → i < wr.heap.size := fun i hi => by
          obtain ⟨_, _, _, _, _, _, _, hp⟩ := hD.at_
          by_cases c : i < wr.heap.size
          · exact c
          · exact absurd (hp.rz i (by omega)) hi
        have HS := Lib.hid hS
        clear hD hS
        go_wp2_with fail
        refine hrp.mono ?_
        intro e w2 hp
        obtain ⟨k, hk, q1, q2, v, rfl, _, hL, h2⟩ := same_recs hp HS.out.1 (by rw [HS.out.2]; decide)
        obtain ⟨A2, c2, rfl, hR2⟩ := hL.rows
        rw [recs_len]
        have HQ := Lib.hid (And.intro q1 (And.intro q2 (And.intro hL (And.intro h2 hR2))))
        clear hrp hp q1 q2 hL h2 hR2
        go_wp2_with fail
        refine (answers4 _).mono ?_
        rintro e w3 ⟨rfl, hC3⟩
        have h3 := HQ.out.2.2.2.1.keep hC3
        have hsl := sectors_law HS.out.1 (by rw [HS.out.2]; decide) h3
        have sam : ∀ w4, Chg (Own ρ1) w3 w4 → ∀ w5, Chg NoB w4 w5 → ∀ A5 c5 m5, m5 ≤ 64 → RRows w4 w5 (fun j => s.get (j : Int)) gen (.slice A5 m5 c5) m5 → Rows w5 A5 (recsF (fun j => s.get (j : Int)) gen m5) → (m5 = 64 ∨ recOf (s.get (m5 : Int)) gen m5 = none) → Calls Try.prog 15 #[.slice A2 k c2, .slice A5 m5 c5] w5 (RetB true w5) := by
          intro w4 hC4 w5 hC5 A5 c5 m5 hm5 hR5 hRR hno
          have hL5 := ((HQ.out.2.2.1.chg hC3 (fun _ x => x.elim)).chg hC4 hρ).chg hC5 (fun _ x => x.elim)
          obtain ⟨A2', c2', ev, hRR2⟩ := hL5.rows
          injection ev with ev1 _ _
          subst ev1
          have hkm : k = m5 := stop_eq (f := fun j => s.get (j : Int)) hk hm5 HQ.out.1 HQ.out.2.1 (fun j hj => by
            obtain ⟨_, _, h2⟩ := hR5
            obtain ⟨_, _, _, b, _, _, h3⟩ := h2 j hj
            rw [h3]; rfl) hno
          subst hkm
          have := sameAll_any A2 A5 c2 c5 (recs s gen k) (recsF (fun j => s.get (j : Int)) gen k) w5 hRR2 hRR (by rw [recs_len]; omega) (by rw [recsF_len]; omega)
          rw [recs_len, recsF_len, decide_eq_true (recs_recsF s gen k)] at this
          exact this
        have SAM := Lib.hid sam
        have H3 := Lib.hid (And.intro hC3 HQ.out.2.2.2.1)
        clear hC3 h3 sam
        go_wp2_with (first | ((with_reducible refine hsl.mono ?_); rintro e w4 ⟨v4, rfl, hC4, hS4, h4⟩; obtain ⟨A4, c4, rfl, hI4⟩ := hS4.sin; have hrc := records_any gen A4 c4 _ w4 g0 g1 hI4) | ((with_reducible refine hrc.mono ?_); rintro e w5 ⟨v5, m5, rfl, hC5, hm5, hR5, hno5⟩; obtain ⟨A5, c5, rfl, hRR⟩ := hR5.rows hC5; have hsa := SAM.out w4 hC4 w5 hC5 A5 c5 m5 hm5 hR5 hRR hno5) | ((with_reducible refine hsa.mono ?_); rintro e w6 ⟨rfl, hC6⟩) | go_in)
        go_ret
        exact ⟨rfl, (h4.ch.trans hC5 (fun _ _ x => x)).trans hC6 (fun _ _ x => x)⟩
end Go.Proofs.Ytfjldlhboaeemaa.Log
