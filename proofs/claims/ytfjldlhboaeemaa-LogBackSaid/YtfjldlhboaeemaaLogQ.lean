/- Chapter 4: LogBack. -/
import Derived.Test.YtfjldlhboaeemaaLogP
import Derived.Test.YtfjldlhboaeemaaLogG
namespace Go.Proofs.Ytfjldlhboaeemaa.Log
open Go.RowKit Go.Proofs.Ytfjldlhboaeemaa.Hp Go.Proofs.Ytfjldlhboaeemaa.By Go.Proofs.Ytfjldlhboaeemaa.Disk Go.Proofs.Ytfjldlhboaeemaa.Word Go.Proofs.Ytfjldlhboaeemaa.WordP
set_option linter.unusedVariables false
set_option linter.unusedSimpArgs false
def BkB (w0 : World) (d : Nat) (gen : Int) (ps : List (List Int)) (out i : Value) (wr : World) : Prop :=
  ∃ (m : Nat) (ρ : Nat → Nat) (s : DSt), m ≤ ps.length ∧ i = .int .i64 m ∧ DL w0 wr d ρ s ∧ Says s (wantf gen (keepL (ps.take m))) ∧ WRows w0 wr out (keepL (ps.take m)) ∧ ∀ g, out.ownBlock = some g → ρ g = 0
theorem sam_any (A1 A2 : Option Addr) (c1 c2 : Nat) (l : List Int) (w : World) (hl : l.length = 64) (h1 : Rd w .u8 A1 l) (h2 : Rd w .u8 A2 l) : Calls Try.prog 27 #[.slice A1 64 c1, .slice A2 64 c2] w (RetB true w) := by
  have := same_any A1 A2 c1 c2 l l w h1 h2
  rw [hl, decide_eq_true rfl] at this
  exact this
set_option maxRecDepth 100000 in
set_option maxHeartbeats 2000000 in
theorem logBack (A : Option Addr) (c : Nat) (ps : List (List Int)) (gen at' : Int) (w : World) (g0 : 0 ≤ gen) (g1 : gen < 4294967296) (hb : ∀ p ∈ ps, ∀ x ∈ p, 0 ≤ x ∧ x ≤ 255) (h : RowsN w A ps) (hps : ps.length ≤ 140737488351232) : Calls Try.prog 9 #[.slice A ps.length c, .int .u32 gen, .int .i64 at'] w (True1 w) := by
  by_cases hl : 64 < ps.length
  · clear h hb
    go_enter Try.func9, Try.ntmps9
    go_wp2_with fail
    refine (answers4 _).mono ?_
    rintro e w1 ⟨rfl, hC⟩
    have fin : True1 w (.returned (.bool true)) w1 := ⟨rfl, hC⟩
    clear hC
    go_wp2_with fail
    go_ret
    exact fin
  · have hn : ps.length ≤ 64 := by omega
    have HR := Lib.hid (And.intro h hb)
    obtain ⟨gen2, hw, hg2, hg3, hg4⟩ : ∃ g, IntKind.u32.wrap (gen + 1) = g ∧ 0 ≤ g ∧ g < 4294967296 ∧ gen ≠ g := ⟨_, rfl, by rw [IntKind.wrap_u32]; omega, by rw [IntKind.wrap_u32]; omega, by rw [IntKind.wrap_u32]; omega⟩
    have HG := Lib.hid (And.intro hw (And.intro hg2 (And.intro hg3 hg4)))
    clear h hb hl hw hg2 hg3 hg4
    go_enter Try.func9, Try.ntmps9
    go_wp2_with fail
    refine (l_new 192 (by omega) (by omega) w).mono ?_
    rintro e w1 ⟨d, ρ, rfl, h1⟩
    have hB : BkB w d gen ps (.slice none 0 0) (.int .i64 0) w1 := ⟨0, ρ, _, by omega, rfl, h1, says_new, WRows.nil _ _, fun g hg => by simp [Value.ownBlock] at hg⟩
    clear h1
    go_wp2_with fail
    go_loopw [8, 9] (fun out i wr => BkB w d gen ps out i wr) (fun out i wr => (64 - intOf i).toNat)
    case atStart => exact hB
    case round =>
      clear hB
      obtain ⟨m, ρ1, s, hm, rfl, hD, hS, hW, hO⟩ := hrel
      obtain ⟨A8, c8, rfl, hWR⟩ := hW.rows hD.ch
      clear hWR
      have kl := keep_len ps m
      have ks : ∀ p ∈ keepL (ps.take m), p.length ≤ 50 := fun p hp => keep_short _ p hp
      by_cases hlt : m < ps.length
      · obtain ⟨ad, B, cB, rfl, y1, y2, y3⟩ := HR.out.1 m hlt
        have kt := keep_take ps m hlt
        have hmem : ps.getD m [] ∈ ps := by rw [List.getD_eq_getElem?_getD, List.getElem?_eq_getElem hlt]; exact List.getElem_mem _
        have hby : Bytes (ps.getD m []) := fun x hx => by have := HR.out.2 _ hmem x hx; omega
        have nx : ∀ out ρ2 s2 w2, DL w w2 d ρ2 s2 → Says s2 (wantf gen (keepL (ps.take (m + 1)))) → WRows w w2 out (keepL (ps.take (m + 1))) → (∀ g, out.ownBlock = some g → ρ2 g = 0) → BkB w d gen ps out (.int .i64 ((m : Int) + 1)) w2 := fun out ρ2 s2 w2 h1 h2 h3 h4 => ⟨m + 1, ρ2, s2, by omega, rfl, h1, h2, h3, h4⟩
        have NX := Lib.hid nx
        have x1 := hD.ch.cell y1 (fun x => x)
        clear nx hmem
        generalize keepL (ps.take m) = ws at *
        generalize keepL (ps.take (m + 1)) = ws2 at *
        generalize ps.getD m [] = p at *
        obtain ⟨k, hk⟩ : ∃ k, k = ws.length := ⟨_, rfl⟩
        rw [← hk] at kl hW hO ⊢
        have HK := Lib.hid hk
        clear hk
        by_cases hp : 50 < p.length
        · rw [if_neg (by omega)] at kt
          have fin := NX.out _ ρ1 s wr hD (by rw [kt]; exact hS) (by rw [kt]; exact hW) hO
          have ha := app_bad (some ⟨d, 0, none⟩) gen k B p.length cB wr (by have := y2.1; omega) (.inr (.inl hp))
          have F := Lib.hid fin
          clear hD hS hW hO fin NX y1 y2 y3 kt hby ks
          go_wp2_with fail
          refine ha.mono ?_
          rintro e w2 ⟨rfl, rfl⟩
          clear ha
          go_wp2_with fail
          exact ⟨F.out, by simp [intOf]; omega⟩
        · have hp' : p.length ≤ 50 := by omega
          have hpd : decide (50 < (p.length : Int)) = false := by simp; omega
          rw [if_pos hp'] at kt
          have slen := secL_len gen k p hp'
          have ha := append_any gen k B cB p hD g0 g1 (by omega) (by omega) hp' (y2.chg hD.ch (fun _ _ _ x => x)) hby
          have sec : ∀ w', Rd w' .u8 B p → Calls Try.prog 28 #[.int .u32 gen, .int .i64 k, .slice B p.length cB] w' (RSecPost w' (secL gen k p)) := fun w' hr => rsector_any gen k B cB p w' g0 g1 (by omega) (by omega) hp' hr hby y3
          obtain ⟨q1, q2⟩ := says_app hS k (by omega) (secL gen k p) slen
          have q3 := app_loose hS.1 (n := (k : Int)) (by omega) (by rw [hS.2.1]; omega) slen
          have q4 : Says (appS s k (secL gen k p)) (wantf gen (ws ++ [p])) := by rw [wantf_snoc, ← HK.out]; exact q2
          have q5 : (appS s k (secL gen k p)).get k = secL gen k p := by rw [q2.2.2 k]; exact if_pos rfl
          rw [q1] at ha
          clear q1 q2
          generalize secL gen k p = S at *
          generalize appS s k S = s2 at *
          have e0 : s2.ioE k = 0 := calm_ioE q4.1 (by omega) (by rw [q4.2.1]; omega)
          have eio : s2.io k = s2 := calm_io q4.1 k
          have Q := Lib.hid (And.intro slen (And.intro q3 (And.intro q4 (And.intro q5 (And.intro e0 eio)))))
          have hlt8 : ∀ g, (Value.slice A8 k c8).ownBlock = some g → g < wr.heap.size := fun g hg => by
            obtain ⟨SVs, hown, _⟩ := hW
            exact own_lt hown g hg
          have H := Lib.hid (And.intro hW (And.intro hO (And.intro hlt8 (And.intro kt (And.intro y1 y2)))))
          have hD1 := Lib.hid hD
          clear hS hW hO hlt8 kt y1 y2 y3 hby ks slen q3 q4 q5 e0 eio hD
          go_wp2_with fail
          refine ha.mono ?_
          rintro e w2 ⟨rfl, hC2, ρ2, h2, hO2⟩
          have x2 := h2.ch.cell H.out.2.2.2.2.1 (fun x => x)
          have hrd := l_read (k : Int) h2
          have HC2 := Lib.hid (And.intro hC2 (And.intro hO2 h2.nw))
          clear ha h2 hC2 hO2
          go_wp2_with fail
          refine hrd.mono ?_
          rintro e w3 ⟨v, rfl, h3, hC3, hrow, _⟩
          obtain ⟨g, hrow, hgw⟩ := hrow Q.out.2.2.2.2.1
          rw [Q.out.2.2.2.2.1]
          rw [Q.out.2.2.2.2.2] at h3
          rw [Q.out.2.2.2.1] at hrow
          have x3 := h3.ch.cell H.out.2.2.2.2.1 (fun x => x)
          have sec3 := sec w3 (H.out.2.2.2.2.2.chg h3.ch (fun _ _ _ x => x))
          have hrd3 := hrow.rd
          obtain ⟨_, _, cp, Cq, rfl, _⟩ := hrow
          have H3 := Lib.hid (And.intro h3 (And.intro hC3 hgw))
          clear hrd h3 hC3 sec
          have sam : ∀ w4, Chg NoB w3 w4 → ∀ A4 c4, Rd w4 .u8 A4 S → Calls Try.prog 27 #[.slice (some ⟨g, 0, none⟩) 64 cp, .slice A4 64 c4] w4 (RetB true w4) := fun w4 hC4 A4 c4 hA => sam_any _ _ _ _ S w4 Q.out.1 (hrd3.chg hC4 (fun _ _ _ x => x)) hA
          have loo : ∀ w5, Chg NoB w3 w5 → Calls Try.prog 25 #[.pointer (some ⟨d, 0, none⟩)] w5 (LoosePost w5 s2) := fun w5 hC5 => loose_any d ρ2 s2 w5 (H3.out.1.keep hC5).at_
          have hW3 : ∀ w6, Chg NoB w3 w6 → WRows w w6 (.slice A8 k c8) ws := fun w6 hC6 => ((H.out.1.chg HC2.out.1 (fun g hg x => x (H.out.2.1 g hg))).chg H3.out.2.1 (fun g hg x => x (HC2.out.2.1 g (H.out.2.2.1 g hg) (H.out.2.1 g hg)))).chg hC6 (fun _ _ x => x)
          have FIN : ∀ w6, Chg NoB w3 w6 → ∀ SVs : List Value, (∀ j, j < ws.length → ∃ B c, SVs[j]? = some (.slice B (ws.getD j []).length c) ∧ Rd w .u8 B (ws.getD j [])) → SVs.length = ws.length → ∀ v' w7, w7.ownsRow w.heap.size 29 1 v' (k + 1) (SVs ++ [.slice B p.length cB]) → Chg (fun i => (Value.slice A8 k c8).ownBlock = some i) w6 w7 → (∀ g, v'.ownBlock = some g → (Value.slice A8 k c8).ownBlock = some g ∨ w6.heap.size ≤ g) → BkB w d gen ps v' (.int .i64 ((m : Int) + 1)) w7 := by
            intro w6 hC6 SVs e1 e2 v' w7 h7 hC7 hO7
            have h6 := H3.out.1.keep hC6
            have z1 : ∀ g, (Value.slice A8 k c8).ownBlock = some g → ρ2 g = 0 := fun g hg => HC2.out.2.1 g (H.out.2.2.1 g hg) (H.out.2.1 g hg)
            have zr : ∀ g, w6.heap.size ≤ g → ρ2 g = 0 := by
              obtain ⟨_, _, _, _, _, _, _, hp⟩ := h6.at_
              exact hp.rz
            have h7d : DL w w7 d ρ2 s2 := by
              cases ho : (Value.slice A8 k c8).ownBlock with
              | none => exact h6.keep (hC7.mono (fun i _ x => by rw [ho] at x; cases x))
              | some g' =>
                refine h6.side (g := g') (hC7.mono (fun i _ x => by rw [ho] at x; exact (Option.some.inj x).symm)) (z1 g' ho) ?_
                obtain ⟨SVs', hown, _⟩ := hW3 w6 hC6
                have := (own_ge (n := ws.length) hown g' ho).1
                omega
            have kt := H.out.2.2.2.1
            refine NX.out v' ρ2 s2 w7 h7d (by rw [kt]; exact Q.out.2.2.1) (by rw [kt]; exact WRows.snoc e2 e1 H.out.2.2.2.2.2 (by rw [← HK.out]; exact h7)) (fun g hg => ?_)
            rcases hO7 g hg with x | x
            · exact z1 g x
            · exact zr g x
          have F := Lib.hid FIN
          have W3 := Lib.hid hW3
          have hst := Lib.hid (And.intro H3.out.1.ch (And.intro Q.out.2.1 H.out.2.2.2.2.1))
          clear FIN hW3 hrd3 Q NX H HC2
          go_wp2_with (first
            | ((with_reducible refine sec3.mono ?_); rintro e w4 ⟨A4, c4, rfl, hR4, hC4⟩; have sm := sam w4 hC4 A4 c4 hR4)
            | ((with_reducible refine sm.mono ?_); rintro e w5 ⟨rfl, hC5⟩; have hC35 := hC4.trans hC5 (fun _ _ x => x); have lo := loo w5 hC35)
            | ((with_reducible refine lo.mono ?_); rintro e w6 ⟨v6, rfl, hown6, hC6⟩; rw [hst.out.2.1] at hown6; obtain ⟨A6, c6, rfl⟩ := own_nil hown6; have hC36 := hC35.trans hC6 (fun _ _ x => x); have hC06 := hst.out.1.trans hC36 (fun _ _ x => x); have x6 := hC06.cell hst.out.2.2 (fun x => x); obtain ⟨SVs, hown, hels⟩ := W3.out w6 hC36; have hlen : SVs.length = ws.length := (by have := hown.1; simpa using this); rw [← HK.out] at hown; have hbase := hC06.size; have F6 := F.out w6 hC36 SVs hels hlen; clear hels hlen)
            | (at_builtin; go_loud (refine append_own3 (w := w6) (base := w.heap.size) rfl (.tmp 74) (.tmp 79) 22 29 rfl (.slice none 0 0) 24 Try.underlying22 info24 rfl (.slice A8 k c8) k SVs (by rfl) hbase hown (.slice B p.length cB) 29 (by rfl) rfl (by omega) (by omega) ?_); intro v' w7 hown' hCo hwh)
            | go_in)
          exact ⟨F6 v' w7 hown' hCo hwh, by simp [intOf]; omega⟩
      · obtain ⟨mm, hmm⟩ : ∃ mm, mm = m := ⟨_, rfl⟩
        have hfull : ps.take m = ps := List.take_of_length_le (by omega)
        rw [hfull] at hS hW hO ks kl ⊢
        clear hfull hmm mm
        generalize keepL ps = ws at *
        obtain ⟨k, hk⟩ : ∃ k, k = ws.length := ⟨_, rfl⟩
        rw [← hk] at kl hW hO ⊢
        have hρ : ∀ i, Own ρ1 i → i < wr.heap.size := fun i hi => by
          obtain ⟨_, _, _, _, _, _, _, hp⟩ := hD.at_
          by_cases c : i < wr.heap.size
          · exact c
          · exact absurd (hp.rz i (by omega)) hi
        have r1 := replay_any gen g0 g1 (by rw [hS.2.1]; decide) hD
        have r2 : ∀ w2, DL w w2 d ρ1 s → Calls Try.prog 14 #[.pointer (some ⟨d, 0, none⟩), .int .u32 gen2] w2 (RepAns w w2 d ρ1 s gen2 0) := fun w2 h2 =>
          (replay_any gen2 HG.out.2.1 HG.out.2.2.1 (by rw [hS.2.1]; decide) h2).mono fun e w' hp => rep_calm hp hS.1 (by rw [hS.2.1]; decide) 0 (by omega) (fun j hj => by omega) (.inr (by rw [hS.2.2]; exact wantf_other gen gen2 ⟨g0, g1⟩ ⟨HG.out.2.1, HG.out.2.2.1⟩ HG.out.2.2.2 ws ks))
        have rep : ∀ e w2, RepPost w wr d ρ1 s gen e w2 → ∃ A2 c2, e = .returned (.tuple #[.slice A2 k c2, .int .i64 0]) ∧ DL w w2 d ρ1 s ∧ Chg (Own ρ1) wr w2 ∧ LRows w2 wr.heap.size (.slice A2 k c2) ws := fun e w2 hp => by
          obtain ⟨v, rfl, hC2, hL, h2⟩ := rep_calm hp hS.1 (by rw [hS.2.1]; decide) k (by omega) (fun j hj => by rw [hS.2.2, wantf_some gen ws ks j (by omega)]; rfl) (.inr (by rw [hS.2.2]; exact wantf_none gen ⟨g0, g1⟩ ws k (by omega) (by omega)))
          rw [hk, recs_want s gen ws ks (fun j => hS.2.2 j)] at hL
          obtain ⟨A2, c2, rfl⟩ := lrows_len hL
          rw [hk]
          exact ⟨A2, c2, rfl, h2, hC2, hL⟩
        have fin : ∀ w2 A2 c2, DL w w2 d ρ1 s → Chg (Own ρ1) wr w2 → LRows w2 wr.heap.size (.slice A2 k c2) ws → ∀ w3, DL w w3 d ρ1 s → Chg (Own ρ1) w2 w3 → ∀ w4, Chg NoB w3 w4 → Chg NoB w w4 ∧ Calls Try.prog 15 #[.slice A2 k c2, .slice A8 k c8] w4 (RetB true w4) := by
          intro w2 A2 c2 h2 hC2 hL w3 h3 hC3 w4 hC4
          have c04 := h3.ch.trans hC4 (fun _ _ x => x)
          refine ⟨c04, ?_⟩
          have hL4 := (hL.chg hC3 hρ).chg hC4 (fun _ x => x.elim)
          obtain ⟨A2', c2', ev, hR2⟩ := hL4.rows
          injection ev with ev1 _ _
          subst ev1
          have hW4 := ((hW.chg hC2 (fun g hg x => x (hO g hg))).chg hC3 (fun g hg x => x (hO g hg))).chg hC4 (fun _ _ x => x)
          obtain ⟨A8', c8', ev, hR8⟩ := hW4.rows c04
          injection ev with ev1 _ _
          subst ev1
          have := sameAll_any A2 A8 c2 c8 ws ws w4 hR2 hR8 (by omega) (by omega)
          rw [decide_eq_true rfl, ← hk] at this
          exact this
        have bad : ∀ w5, (at' < 0 ∨ 63 < at') → Calls Try.prog 18 #[.pointer (some ⟨d, 0, none⟩), .int .u32 gen, .int .i64 at', .slice none 0 0] w5 fun e w' => e = .returned (.int .i64 1) ∧ w5 = w' := fun w5 hb => app_bad (some ⟨d, 0, none⟩) gen at' none 0 0 w5 (by omega) (.inr (.inr hb))
        have hwr := Lib.hid HG.out.1
        have R2 := Lib.hid r2
        have RP := Lib.hid rep
        have FN := Lib.hid fin
        have BD := Lib.hid bad
        clear hS hW hO ks hD hρ hk r2 rep fin bad HG HR kl
        go_wp2_with fail
        refine r1.mono ?_
        intro e w2 hp
        obtain ⟨A2, c2, rfl, h2, hC2, hL⟩ := RP.out e w2 hp
        have r2 := R2.out w2 h2
        have hww := hwr.out
        have H2 := Lib.hid (And.intro h2 (And.intro hC2 hL))
        clear r1 hp h2 hC2 hL RP R2
        go_wp2_with fail
        refine r2.mono ?_
        rintro e w3 ⟨v3, rfl, hC3, hL3, h3⟩
        obtain ⟨A3, c3, rfl⟩ := lrows_len hL3
        rw [recs_len]
        have FF := Lib.hid (FN.out w2 A2 c2 H2.out.1 H2.out.2.1 H2.out.2.2 w3 h3 hC3)
        clear r2 hww hC3 hL3 h3 H2 FN
        by_cases b1 : at' < 0
        · have d1 : decide (at' < 0) = true := decide_eq_true b1
          have bd := fun w5 => BD.out w5 (.inl b1)
          clear BD b1
          go_wp2_with (first | ((with_reducible refine (answers4 _).mono ?_); rintro e w4 ⟨rfl, hC4⟩; obtain ⟨c04, sa⟩ := FF.out w4 hC4) | ((with_reducible refine sa.mono ?_); rintro e w5 ⟨rfl, hC5⟩; have bd5 := bd w5) | ((with_reducible refine bd5.mono ?_); rintro e w6 ⟨rfl, rfl⟩) | go_in)
          go_ret
          exact ⟨rfl, c04.trans hC5 (fun _ _ x => x)⟩
        · by_cases b2 : 63 < at'
          · have d1 : decide (at' < 0) = false := decide_eq_false b1
            have d2 : decide (63 < at') = true := decide_eq_true b2
            have bd := fun w5 => BD.out w5 (.inr b2)
            clear BD b1 b2
            go_wp2_with (first | ((with_reducible refine (answers4 _).mono ?_); rintro e w4 ⟨rfl, hC4⟩; obtain ⟨c04, sa⟩ := FF.out w4 hC4) | ((with_reducible refine sa.mono ?_); rintro e w5 ⟨rfl, hC5⟩; have bd5 := bd w5) | ((with_reducible refine bd5.mono ?_); rintro e w6 ⟨rfl, rfl⟩) | go_in)
            go_ret
            exact ⟨rfl, c04.trans hC5 (fun _ _ x => x)⟩
          · have d1 : decide (at' < 0) = false := decide_eq_false b1
            have d2 : decide (63 < at') = false := decide_eq_false b2
            clear BD b1 b2
            go_wp2_with (first | ((with_reducible refine (answers4 _).mono ?_); rintro e w4 ⟨rfl, hC4⟩; obtain ⟨c04, sa⟩ := FF.out w4 hC4) | ((with_reducible refine sa.mono ?_); rintro e w5 ⟨rfl, hC5⟩) | go_in)
            go_ret
            exact ⟨rfl, c04.trans hC5 (fun _ _ x => x)⟩
theorem logBack_row (a0 : Option Addr) (len0 cap0 : Nat) (z0 : List (List Int)) (a1 a2 : Int) (W : World) (y0 : len0 ≤ 140737488351232) (hz0 : z0.length = len0) (w0 : RowsN W a0 z0) (b0 : ∀ p ∈ z0, ∀ x ∈ p, 0 ≤ x ∧ x ≤ 255) (w1 : (Lit.int .u32 a1).wf = true) (w2 : (Lit.int .i64 a2).wf = true) :
    Calls Try.prog 9 #[.slice a0 len0 cap0, .int .u32 a1, .int .i64 a2] W fun e w' => e = .returned (.bool true) ∧ Below W.heap.size W w' := by
  subst hz0
  exact (logBack a0 cap0 z0 a1 a2 W (u32b5 w1).1 (u32b5 w1).2 b0 w0 y0).mono fun _ _ h => h.row
end Go.Proofs.Ytfjldlhboaeemaa.Log
