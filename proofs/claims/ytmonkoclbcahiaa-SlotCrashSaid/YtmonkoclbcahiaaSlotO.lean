/- Chapter 5: SlotCrash. -/
import Derived.Test.YtmonkoclbcahiaaSlotM
import Derived.Test.YtmonkoclbcahiaaSlotN
import Derived.Test.YtmonkoclbcahiaaSlotI
import Derived.Test.YtmonkoclbcahiaaOpen
namespace Go.Proofs.Ytmonkoclbcahiaa.Slot
open Go.RowKit Go.Proofs.Ytmonkoclbcahiaa.Hp Go.Proofs.Ytmonkoclbcahiaa.By Go.Proofs.Ytmonkoclbcahiaa.Disk Go.Proofs.Ytmonkoclbcahiaa.Word Go.Proofs.Ytmonkoclbcahiaa.WordP Go.Proofs.Ytmonkoclbcahiaa.Log Go.Proofs.Ytmonkoclbcahiaa.Opn
set_option linter.unusedVariables false
set_option linter.unusedSimpArgs false
def InV (w : World) (v : Value) (L : List Int) : Prop := ∃ A c, v = .slice A L.length c ∧ Rd w .u8 A L
def ScB (w0 : World) (d : Nat) (ps : List (List Int)) (now then' gen next i : Value) (wr : World) : Prop :=
  ∃ (m : Nat) (ρ : Nat → Nat) (s : DSt) (f : Nat → List Int) (L : List Int), m ≤ ps.length ∧ i = .int .i64 m ∧ gen = .int .u32 m ∧ next = .int .u32 m ∧ DL w0 wr d ρ s ∧ Firm s f ∧ Inv f m L ∧ InV w0 now L ∧ InV w0 then' L
set_option maxRecDepth 100000 in
set_option maxHeartbeats 4000000 in
theorem slotCrash (A : Option Addr) (c : Nat) (ps : List (List Int)) (first count fuse keep torn : Int) (w : World) (k0 : 0 ≤ keep) (k1 : keep < 18446744073709551616) (f1 : fuse ≤ 9223372036854775807) (f2 : first ≤ 9223372036854775807) (f3 : count ≤ 9223372036854775807) (hb : ∀ p ∈ ps, ∀ x ∈ p, 0 ≤ x ∧ x ≤ 255) (h : RowsM w A ps) (hps : ps.length ≤ 140737488351232) : Calls Try.prog 8 #[.slice A ps.length c, .int .i64 first, .int .i64 count, .int .i64 fuse, .int .u64 keep, .int .i64 torn] w (True1 w) := by
  by_cases hl : 10 < ps.length
  · clear h hb
    go_enter Try.func8, Try.ntmps8
    go_wp2_with fail
    refine (answers5 _).mono ?_
    rintro e w1 ⟨rfl, hC⟩
    have fin : True1 w (.returned (.bool true)) w1 := ⟨rfl, hC⟩
    clear hC
    go_wp2_with fail
    go_ret
    exact fin
  · have hn : ps.length ≤ 10 := by omega
    have HR := Lib.hid (And.intro h hb)
    clear h hb hl
    go_enter Try.func8, Try.ntmps8
    go_wp2_with fail
    refine (l_new 192 (by omega) (by omega) w).mono ?_
    rintro e w1 ⟨d, ρ, rfl, h1⟩
    have hfa := l_fail first count f2 f3 h1
    clear h1
    go_wp2_with fail
    refine hfa.mono ?_
    rintro e w2 ⟨rfl, h2, _⟩
    have hfu := l_fuse fuse f1 h2
    clear hfa h2
    go_wp2_with fail
    refine hfu.mono ?_
    rintro e w3 ⟨rfl, h3, _⟩
    have hB : ScB w d ps (.slice none 0 0) (.slice none 0 0) (.int .u32 0) (.int .u32 0) (.int .i64 0) w3 := ⟨0, ρ, _, _, [], by omega, rfl, rfl, rfl, h3, firm_new first count fuse, inv_new, ⟨none, 0, rfl, by decide, fun hp => absurd hp (by decide)⟩, ⟨none, 0, rfl, by decide, fun hp => absurd hp (by decide)⟩⟩
    clear hfu h3
    go_wp2_with fail
    go_loopw [14, 15, 16, 17, 18] (fun now then' gen next i wr => ScB w d ps now then' gen next i wr) (fun now then' gen next i wr => (64 - intOf i).toNat)
    case atStart => exact hB
    case round =>
      clear hB
      obtain ⟨m, ρ1, s, f, L, hm, rfl, rfl, rfl, hD, hF, hI, ⟨AN, cN, rfl, hrN⟩, ⟨AX', cX', rfl, hrX⟩⟩ := hrel
      by_cases hlt : m < ps.length
      · obtain ⟨ad, B, cB, rfl, y1, y2, _, y3⟩ := HR.out.1 m hlt
        have hmem : ps.getD m [] ∈ ps := by rw [List.getD_eq_getElem?_getD, List.getElem?_eq_getElem hlt]; exact List.getElem_mem _
        have hby : Bytes (ps.getD m []) := fun x hx => by have := HR.out.2 _ hmem x hx; omega
        have x1 := hD.ch.cell y1 (fun x => x)
        generalize ps.getD m [] = p at *
        by_cases hp : 960 < p.length
        · have fin : Chg NoB w wr := hD.ch
          clear hD hF hI hrN hrX y1 y2 y3 hmem hby HR
          go_wp2_with fail
          refine (answers5 _).mono ?_
          rintro e w3 ⟨rfl, hC⟩
          have fin2 : True1 w (.returned (.bool true)) w3 := ⟨rfl, fin.trans hC (fun _ _ x => x)⟩
          clear hC fin x1
          go_wp2_with fail
          go_ret
          exact fin2
        · have hpd : decide (960 < (p.length : Int)) = false := decide_eq_false (by omega)
          have ew : IntKind.u32.wrap ((m : Int) + 1) = (m : Int) + 1 := by rw [IntKind.wrap_u32]; omega
          have hsv := save_any ((m : Int) + 1) B cB p hD (by omega) (by omega) (by omega) (y2.chg hD.ch (fun _ _ _ x => x)) (fun hp ad e x => by
            have q1 := y2.lt hp ad e
            have q2 := hD.nw _ x
            omega) y3 hby
          have H := Lib.hid (And.intro hF (And.intro hI (And.intro hrN y2)))
          have hp96 : p.length ≤ 960 := by omega
          clear hD hF hI hrN hrX y1 y2 y3 hmem hby hp ew
          go_wp2_with fail
          refine hsv.mono ?_
          rintro e w5 ⟨E, s2, rfl, hS, ρ2, h5, hC5, hz5⟩
          have hsf := saves_firm H.out.1 H.out.2.1.1 hp96 hS
          have HS := Lib.hid (And.intro hsf h5)
          clear hsv hS h5 hC5 hz5 hsf
          by_cases hE : E = 0
          · subst hE
            have fin : ScB w d ps (.slice B p.length cB) (.slice B p.length cB) (.int .u32 ((m : Int) + 1)) (.int .u32 ((m : Int) + 1)) (.int .i64 ((m : Int) + 1)) w5 := ⟨m + 1, ρ2, s2, _, p, by omega, by push_cast; rfl, by push_cast; rfl, by push_cast; rfl, HS.out.2, HS.out.1.1 rfl, by push_cast; exact inv_next H.out.2.1 (by omega) hp96, ⟨B, cB, rfl, H.out.2.2.2⟩, ⟨B, cB, rfl, H.out.2.2.2⟩⟩
            clear H HS
            go_wp2_with fail
            exact ⟨fin, by simp [intOf]; omega⟩
          · have hEb : (E != 0) = true := by rw [bne_iff_ne]; exact hE
            have hT := HS.out.2
            have hKT : ∃ f', Says (s2.crash keep torn) f' ∧ (loadOf f' = ((m : Int), L) ∨ ((m : Int) + 1 ≠ (m : Int) ∧ (loadOf f' = ((m : Int) + 1, p) ∨ (0 < torn ∧ torn < 64)))) := by
              obtain ⟨f', a, b⟩ := HS.out.1.2 hE keep torn
              refine ⟨f', a, ?_⟩
              rcases inv_cut H.out.2.1 (by omega) hp96 b with x | x | x
              · exact .inl x
              · exact .inr ⟨by omega, .inl x⟩
              · exact .inr ⟨by omega, .inr x⟩
            have HL := Lib.hid (And.intro H.out.2.2.1 H.out.2.2.2)
            clear H HS hE
            have hcr := l_crash keep torn k0 k1 hT
            obtain ⟨f', hs', hK⟩ := hKT
            have hs2 := Lib.hid hs'
            clear hT hs'
            generalize s2.crash keep torn = s3 at *
            go_wp2_with fail
            refine hcr.mono ?_
            rintro e w6 ⟨rfl, _, ρ6, hT6, _⟩
            have hl6 := load_any hT6 hs2.out
            have hW := Lib.hid (own_lt_size hT6)
            have hG := Lib.hid hK
            clear hcr hT6 hK
            obtain ⟨G, hGe⟩ : ∃ G, G = (loadOf f').1 := ⟨_, rfl⟩
            obtain ⟨bb, hbe⟩ : ∃ bb, bb = (loadOf f').2 := ⟨_, rfl⟩
            have HGB := Lib.hid (And.intro hGe hbe)
            clear hGe hbe
            go_wp2_with fail
            refine hl6.mono ?_
            rintro e w7 ⟨vb, rfl, hC7, h7, hv7, q0, q1⟩
            rw [← HGB.out.1] at q0 q1 ⊢
            rw [← HGB.out.2] at hv7
            have hkb := hv7.kept hW.out
            have hal := all_law hs2.out.1 (by rw [hs2.out.2.1]; decide) h7
            have HKB := Lib.hid (And.intro hkb h7)
            clear hl6 hC7 h7 hv7 hkb
            go_wp2_with fail
            refine hal.mono ?_
            rintro e w8 ⟨v8, rfl, hC8, hS8, h8⟩
            obtain ⟨A8, c8, rfl, hc8, hI8⟩ := hS8.sin
            obtain ⟨ad8, _, _, rfl, _⟩ := hI8 0 (by decide)
            have hI8' : SInN w8 (some ad8) 100 f' := fun j hj => by
              obtain ⟨z1, z2, z3, z4, z5, z6⟩ := hI8 j hj
              exact ⟨z1, z2, z3, z4, z5, by rw [← hs2.out.2.2 j]; exact z6⟩
            have hrl := rload_any ad8 c8 f' w8 hc8 hI8'
            have hkb8 := HKB.out.1.chg hC8
            have HKB8 := Lib.hid (And.intro hkb8 h8)
            clear hal hC8 hS8 h8 hI8 hI8' HKB hkb8
            go_wp2_with fail
            refine hrl.mono ?_
            rintro e w9 ⟨v9, rfl, hC9, hv9, _, _⟩
            rw [← HGB.out.1]
            rw [← HGB.out.2] at hv9
            have hkb9 := HKB8.out.1.keep hC9
            have hch9 : Chg NoB w w9 := HKB8.out.2.ch.trans hC9 (fun _ _ x => x)
            have h9ρ := Lib.hid (show ∀ i, Own ρ6 i → i < w8.heap.size from own_lt_size HKB8.out.2)
            have hv9k := hv9.kept h9ρ.out
            obtain ⟨Ab, cb, rfl, _, hrb, _⟩ := hkb9
            obtain ⟨Ac, cc, rfl, _, hrc, _⟩ := hv9k
            have cm1 : ∀ w', Chg NoB w9 w' → Calls Try.prog 19 #[.slice Ab bb.length cb, .slice AN L.length cN] w' (RetB (decide (bb = L)) w') := fun w' hc => same_any Ab AN cb cN bb L w' (hrb.chg hc (fun _ _ _ x => x)) (HL.out.1.chg (hch9.trans hc (fun _ _ x => x)) (fun _ _ _ x => x))
            have cm2 : ∀ w', Chg NoB w9 w' → Calls Try.prog 19 #[.slice Ab bb.length cb, .slice B p.length cB] w' (RetB (decide (bb = p)) w') := fun w' hc => same_any Ab B cb cB bb p w' (hrb.chg hc (fun _ _ _ x => x)) (HL.out.2.chg (hch9.trans hc (fun _ _ x => x)) (fun _ _ _ x => x))
            have cm3 : ∀ w', Chg NoB w9 w' → Calls Try.prog 19 #[.slice Ab bb.length cb, .slice Ac bb.length cc] w' (RetB true w') := fun w' hc => by
              have := same_any Ab Ac cb cc bb bb w' (hrb.chg hc (fun _ _ _ x => x)) (hrc.chg hc (fun _ _ _ x => x))
              rwa [decide_eq_true rfl] at this
            have c1w := cm1 w9 (Chg.refl _ _)
            have c2w := cm2 w9 (Chg.refl _ _)
            have CM := Lib.hid (And.intro cm1 (And.intro cm2 cm3))
            have KK : (G = (m : Int) ∧ bb = L) ∨ (((m : Int) + 1) ≠ (m : Int) ∧ ((G = ((m : Int) + 1) ∧ bb = p) ∨ (0 < torn ∧ torn < 64))) := by
              rcases hG.out with x | ⟨y, x | x⟩
              · left; rw [HGB.out.1, HGB.out.2, x]; exact ⟨rfl, rfl⟩
              · right; refine ⟨y, .inl ?_⟩; rw [HGB.out.1, HGB.out.2, x]; exact ⟨rfl, rfl⟩
              · exact .inr ⟨y, .inr x⟩
            have hch9h := Lib.hid hch9
            clear hrl hC9 hv9 hrb hrc cm1 cm2 cm3 hch9 HKB8 HGB hG hs2 hW h9ρ
            by_cases g1 : G = (m : Int)
            · by_cases b1 : bb = L
              · have t1 : (G == (m : Int)) = true := by rw [beq_iff_eq]; exact g1
                rw [decide_eq_true b1] at c1w
                clear c2w KK g1 b1
                go_wp2_with (first | ((with_reducible refine c1w.mono ?_); rintro e w10 ⟨rfl, hC10⟩) | ((with_reducible refine (answers5 _).mono ?_); rintro e w11 ⟨rfl, hC11⟩; have c3 := CM.out.2.2 w11 (hC10.trans hC11 (fun _ _ x => x))) | ((with_reducible refine c3.mono ?_); rintro e w12 ⟨rfl, hC12⟩) | go_in)
                go_ret
                exact ⟨rfl, (hch9h.out.trans (hC10.trans hC11 (fun _ _ x => x)) (fun _ _ x => x)).trans hC12 (fun _ _ x => x)⟩
              · have ht := KK.resolve_left (fun x => b1 x.2)
                have n2 : ¬ G = ((m : Int) + 1) := fun x => ht.1 (by rw [← x, g1])
                have ht2 := ht.2.resolve_left (fun x => n2 x.1)
                have t1 : (G == (m : Int)) = true := by rw [beq_iff_eq]; exact g1
                have t2 : (G == ((m : Int) + 1)) = false := by rw [beq_eq_false_iff_ne]; exact n2
                have d1 : decide (0 < torn) = true := decide_eq_true ht2.1
                have d2 : decide (torn < 64) = true := decide_eq_true ht2.2
                rw [decide_eq_false b1] at c1w
                clear c2w KK g1 b1 ht n2 ht2
                go_wp2_with (first | ((with_reducible refine c1w.mono ?_); rintro e w10 ⟨rfl, hC10⟩) | ((with_reducible refine (answers5 _).mono ?_); rintro e w11 ⟨rfl, hC11⟩; have c3 := CM.out.2.2 w11 (hC10.trans hC11 (fun _ _ x => x))) | ((with_reducible refine c3.mono ?_); rintro e w12 ⟨rfl, hC12⟩) | go_in)
                go_ret
                exact ⟨rfl, (hch9h.out.trans (hC10.trans hC11 (fun _ _ x => x)) (fun _ _ x => x)).trans hC12 (fun _ _ x => x)⟩
            · have ht := (KK.resolve_left (fun x => g1 x.1)).2
              have t1 : (G == (m : Int)) = false := by rw [beq_eq_false_iff_ne]; exact g1
              by_cases g2 : G = ((m : Int) + 1)
              · have t2 : (G == ((m : Int) + 1)) = true := by rw [beq_iff_eq]; exact g2
                by_cases b2 : bb = p
                · rw [decide_eq_true b2] at c2w
                  clear c1w KK g1 g2 b2 ht
                  go_wp2_with (first | ((with_reducible refine c2w.mono ?_); rintro e w10 ⟨rfl, hC10⟩) | ((with_reducible refine (answers5 _).mono ?_); rintro e w11 ⟨rfl, hC11⟩; have c3 := CM.out.2.2 w11 (hC10.trans hC11 (fun _ _ x => x))) | ((with_reducible refine c3.mono ?_); rintro e w12 ⟨rfl, hC12⟩) | go_in)
                  go_ret
                  exact ⟨rfl, (hch9h.out.trans (hC10.trans hC11 (fun _ _ x => x)) (fun _ _ x => x)).trans hC12 (fun _ _ x => x)⟩
                · have ht2 := ht.resolve_left (fun x => b2 x.2)
                  have d1 : decide (0 < torn) = true := decide_eq_true ht2.1
                  have d2 : decide (torn < 64) = true := decide_eq_true ht2.2
                  rw [decide_eq_false b2] at c2w
                  clear c1w KK g1 g2 b2 ht ht2
                  go_wp2_with (first | ((with_reducible refine c2w.mono ?_); rintro e w10 ⟨rfl, hC10⟩) | ((with_reducible refine (answers5 _).mono ?_); rintro e w11 ⟨rfl, hC11⟩; have c3 := CM.out.2.2 w11 (hC10.trans hC11 (fun _ _ x => x))) | ((with_reducible refine c3.mono ?_); rintro e w12 ⟨rfl, hC12⟩) | go_in)
                  go_ret
                  exact ⟨rfl, (hch9h.out.trans (hC10.trans hC11 (fun _ _ x => x)) (fun _ _ x => x)).trans hC12 (fun _ _ x => x)⟩
              · have ht2 := ht.resolve_left (fun x => g2 x.1)
                have t2 : (G == ((m : Int) + 1)) = false := by rw [beq_eq_false_iff_ne]; exact g2
                have d1 : decide (0 < torn) = true := decide_eq_true ht2.1
                have d2 : decide (torn < 64) = true := decide_eq_true ht2.2
                clear c1w c2w KK g1 g2 ht ht2
                go_wp2_with (first | ((with_reducible refine (answers5 _).mono ?_); rintro e w11 ⟨rfl, hC11⟩; have c3 := CM.out.2.2 w11 hC11) | ((with_reducible refine c3.mono ?_); rintro e w12 ⟨rfl, hC12⟩) | go_in)
                go_ret
                exact ⟨rfl, (hch9h.out.trans hC11 (fun _ _ x => x)).trans hC12 (fun _ _ x => x)⟩
      · have hm10 : m ≤ 10 := by omega
        have hKT : ∃ f', Says (s.crash keep torn) f' ∧ (loadOf f' = ((m : Int), L) ∨ ((m : Int) ≠ (m : Int) ∧ (loadOf f' = ((m : Int), L) ∨ (0 < torn ∧ torn < 64)))) := ⟨f, crash_firm hF keep torn, .inl (inv_load hI (by omega))⟩
        have hT := hD
        have HL := Lib.hid (And.intro hrN hrX)
        clear hD hF hI hrN hrX HR
        have hcr := l_crash keep torn k0 k1 hT
        obtain ⟨f', hs', hK⟩ := hKT
        have hs2 := Lib.hid hs'
        clear hT hs'
        generalize s.crash keep torn = s3 at *
        go_wp2_with fail
        refine hcr.mono ?_
        rintro e w6 ⟨rfl, _, ρ6, hT6, _⟩
        have hl6 := load_any hT6 hs2.out
        have hW := Lib.hid (own_lt_size hT6)
        have hG := Lib.hid hK
        clear hcr hT6 hK
        obtain ⟨G, hGe⟩ : ∃ G, G = (loadOf f').1 := ⟨_, rfl⟩
        obtain ⟨bb, hbe⟩ : ∃ bb, bb = (loadOf f').2 := ⟨_, rfl⟩
        have HGB := Lib.hid (And.intro hGe hbe)
        clear hGe hbe
        go_wp2_with fail
        refine hl6.mono ?_
        rintro e w7 ⟨vb, rfl, hC7, h7, hv7, q0, q1⟩
        rw [← HGB.out.1] at q0 q1 ⊢
        rw [← HGB.out.2] at hv7
        have hkb := hv7.kept hW.out
        have hal := all_law hs2.out.1 (by rw [hs2.out.2.1]; decide) h7
        have HKB := Lib.hid (And.intro hkb h7)
        clear hl6 hC7 h7 hv7 hkb
        go_wp2_with fail
        refine hal.mono ?_
        rintro e w8 ⟨v8, rfl, hC8, hS8, h8⟩
        obtain ⟨A8, c8, rfl, hc8, hI8⟩ := hS8.sin
        obtain ⟨ad8, _, _, rfl, _⟩ := hI8 0 (by decide)
        have hI8' : SInN w8 (some ad8) 100 f' := fun j hj => by
          obtain ⟨z1, z2, z3, z4, z5, z6⟩ := hI8 j hj
          exact ⟨z1, z2, z3, z4, z5, by rw [← hs2.out.2.2 j]; exact z6⟩
        have hrl := rload_any ad8 c8 f' w8 hc8 hI8'
        have hkb8 := HKB.out.1.chg hC8
        have HKB8 := Lib.hid (And.intro hkb8 h8)
        clear hal hC8 hS8 h8 hI8 hI8' HKB hkb8
        go_wp2_with fail
        refine hrl.mono ?_
        rintro e w9 ⟨v9, rfl, hC9, hv9, _, _⟩
        rw [← HGB.out.1]
        rw [← HGB.out.2] at hv9
        have hkb9 := HKB8.out.1.keep hC9
        have hch9 : Chg NoB w w9 := HKB8.out.2.ch.trans hC9 (fun _ _ x => x)
        have h9ρ := Lib.hid (show ∀ i, Own ρ6 i → i < w8.heap.size from own_lt_size HKB8.out.2)
        have hv9k := hv9.kept h9ρ.out
        obtain ⟨Ab, cb, rfl, _, hrb, _⟩ := hkb9
        obtain ⟨Ac, cc, rfl, _, hrc, _⟩ := hv9k
        have cm1 : ∀ w', Chg NoB w9 w' → Calls Try.prog 19 #[.slice Ab bb.length cb, .slice AN L.length cN] w' (RetB (decide (bb = L)) w') := fun w' hc => same_any Ab AN cb cN bb L w' (hrb.chg hc (fun _ _ _ x => x)) (HL.out.1.chg (hch9.trans hc (fun _ _ x => x)) (fun _ _ _ x => x))
        have cm2 : ∀ w', Chg NoB w9 w' → Calls Try.prog 19 #[.slice Ab bb.length cb, .slice AX' L.length cX'] w' (RetB (decide (bb = L)) w') := fun w' hc => same_any Ab AX' cb cX' bb L w' (hrb.chg hc (fun _ _ _ x => x)) (HL.out.2.chg (hch9.trans hc (fun _ _ x => x)) (fun _ _ _ x => x))
        have cm3 : ∀ w', Chg NoB w9 w' → Calls Try.prog 19 #[.slice Ab bb.length cb, .slice Ac bb.length cc] w' (RetB true w') := fun w' hc => by
          have := same_any Ab Ac cb cc bb bb w' (hrb.chg hc (fun _ _ _ x => x)) (hrc.chg hc (fun _ _ _ x => x))
          rwa [decide_eq_true rfl] at this
        have c1w := cm1 w9 (Chg.refl _ _)
        have c2w := cm2 w9 (Chg.refl _ _)
        have CM := Lib.hid (And.intro cm1 (And.intro cm2 cm3))
        have KK : (G = (m : Int) ∧ bb = L) ∨ ((m : Int) ≠ (m : Int) ∧ ((G = (m : Int) ∧ bb = L) ∨ (0 < torn ∧ torn < 64))) := by
          rcases hG.out with x | ⟨y, x | x⟩
          · left; rw [HGB.out.1, HGB.out.2, x]; exact ⟨rfl, rfl⟩
          · right; refine ⟨y, .inl ?_⟩; rw [HGB.out.1, HGB.out.2, x]; exact ⟨rfl, rfl⟩
          · exact .inr ⟨y, .inr x⟩
        have hch9h := Lib.hid hch9
        clear hrl hC9 hv9 hrb hrc cm1 cm2 cm3 hch9 HKB8 HGB hG hs2 hW h9ρ
        have hk := KK.elim id (fun x => absurd rfl x.1)
        have t1 : (G == (m : Int)) = true := by rw [beq_iff_eq]; exact hk.1
        rw [decide_eq_true hk.2] at c1w
        clear c2w KK hk
        go_wp2_with (first | ((with_reducible refine c1w.mono ?_); rintro e w10 ⟨rfl, hC10⟩) | ((with_reducible refine (answers5 _).mono ?_); rintro e w11 ⟨rfl, hC11⟩; have c3 := CM.out.2.2 w11 (hC10.trans hC11 (fun _ _ x => x))) | ((with_reducible refine c3.mono ?_); rintro e w12 ⟨rfl, hC12⟩) | go_in)
        go_ret
        exact ⟨rfl, (hch9h.out.trans (hC10.trans hC11 (fun _ _ x => x)) (fun _ _ x => x)).trans hC12 (fun _ _ x => x)⟩
theorem u64b9 {n : Int} (h : (Lit.int .u64 n).wf = true) : 0 ≤ n ∧ n < 18446744073709551616 := by
  simp only [Lit.wf, Bool.and_eq_true, decide_eq_true_eq] at h
  have e1 : IntKind.u64.min = 0 := rfl
  have e2 : IntKind.u64.max = 18446744073709551615 := rfl
  omega
theorem i64b9 {n : Int} (h : (Lit.int .i64 n).wf = true) : -9223372036854775808 ≤ n ∧ n ≤ 9223372036854775807 := by
  simp only [Lit.wf, Bool.and_eq_true, decide_eq_true_eq] at h
  have e1 : IntKind.i64.min = -9223372036854775808 := rfl
  have e2 : IntKind.i64.max = 9223372036854775807 := rfl
  omega
theorem slotCrash_row (a0 : Option Addr) (len0 cap0 : Nat) (z0 : List (List Int)) (a1 a2 a3 a4 a5 : Int) (W : World) (y0 : len0 ≤ 140737488351232) (hz0 : z0.length = len0) (w0 : RowsM W a0 z0) (b0 : ∀ p ∈ z0, ∀ x ∈ p, 0 ≤ x ∧ x ≤ 255) (w1 : (Lit.int .i64 a1).wf = true) (w2 : (Lit.int .i64 a2).wf = true) (w3 : (Lit.int .i64 a3).wf = true) (w4 : (Lit.int .u64 a4).wf = true) (w5 : (Lit.int .i64 a5).wf = true) :
    Calls Try.prog 8 #[.slice a0 len0 cap0, .int .i64 a1, .int .i64 a2, .int .i64 a3, .int .u64 a4, .int .i64 a5] W fun e w' => e = .returned (.bool true) ∧ Below W.heap.size W w' := by
  subst hz0
  exact (slotCrash a0 cap0 z0 a1 a2 a3 a4 a5 W (u64b9 w4).1 (u64b9 w4).2 (i64b9 w3).2 (i64b9 w1).2 (i64b9 w2).2 b0 w0 y0).mono fun _ _ h => h.row
end Go.Proofs.Ytmonkoclbcahiaa.Slot
