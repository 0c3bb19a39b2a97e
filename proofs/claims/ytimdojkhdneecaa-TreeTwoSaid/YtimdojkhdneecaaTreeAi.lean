/- TreeTwo (printed by lib/mktq.py). -/
import Derived.Test.YtimdojkhdneecaaTreeAh
import Derived.Deep.DeepCutAuto
import Derived.Deep.CutBlock
import Derived.BigQuiet
import Derived.Deep.QuietTactic
import Derived.Deep.RegionHeldLaw
namespace Go.Proofs.Ytimdojkhdneecaa.Tree
open Go.RowKit Go.Proofs.Ytimdojkhdneecaa.Hp Go.Proofs.Ytimdojkhdneecaa.Ram Go.Proofs.Ytimdojkhdneecaa.Word Go.Proofs.Ytimdojkhdneecaa.WordP Go.Proofs.Ytimdojkhdneecaa.Pool
set_option linter.unusedVariables false
set_option linter.unusedSimpArgs false
theorem part_free {f : Nat} {S : PS} (hU : ∀ g, g ≠ f → S.U g = (partS 8).U g) : ∃ g, g < 1024 ∧ S.U g = 1 := by
  by_cases c : f = 0
  · exact ⟨1, by decide, by rw [hU 1 (by omega)]; rfl⟩
  · exact ⟨0, by decide, by rw [hU 0 (fun e => c e.symm)]; rfl⟩
def TwAft (w : World) (pm bl p b bi t u g h : Nat) (L2 : Nat → Ent) (wx : World) : Prop := ∃ L1, TwSt w pm bl p b bi t u g h L1 L1 L2 L2 wx
set_option maxRecDepth 100000 in
set_option maxHeartbeats 40000000 in
theorem treeTwo_main (A : Option Addr) (la ca : Nat) (X : Nat → TAct) (A2 : Option Addr) (lb cb : Nat) (Y : Nat → TAct) (w : World) (h1 : la ≤ 20) (h2 : lb ≤ 20) (hx : IsTActs w A la ca X) (hy : IsTActs w A2 lb cb Y) :
    Calls Try.prog 4 #[.slice A la ca, .slice A2 lb cb] w (True1 w) := by
  have d0 : decide ((20 : Int) < (la : Int)) = false := decide_eq_false (by omega)
  have d1 : decide (20 < la) = false := decide_eq_false (by omega)
  have d2 : decide ((20 : Int) < (lb : Int)) = false := decide_eq_false (by omega)
  have d3 : decide (20 < lb) = false := decide_eq_false (by omega)
  have hpa := parts_any 8 (by decide) w
  rw [show ((8 : Nat) : Int) = 8 from rfl] at hpa
  have HA := Lib.hid (And.intro hx hy)
  clear hx hy
  go_enter Try.func4, Try.ntmps4
  go_wp2_with fail
  refine hpa.mono ?_
  rintro e w1 ⟨pm, bl, p, b, bi, rfl, hP, hR, hlo, hd⟩
  have hnw := new_part ⟨by decide, by decide⟩ hP hR hlo hd
  clear hpa hP hR hlo hd
  go_wp2_with fail
  refine hnw.mono ?_
  rintro e w2 ⟨t, f, S, B, ov, s, rfl, hL, -, -, -, hU, -⟩
  have hn2 := new_two hL (part_free hU)
  clear hnw hL hU
  go_wp2_with fail
  refine hn2.mono ?_
  rintro e w3 ⟨u, S2, B2, r1, r2, o1, o2, s1, s2, rfl, hL1, hL2, hdj, hbk, htu⟩
  obtain ⟨Z, hz1, hz2, hz3⟩ := zero_E
  have hSA : TwSt w pm bl p b bi t u w3.heap.size (w3.heap.size + 1) (fun _ => noE) (fun _ => noE) (fun _ => noE) (fun _ => noE) ((w3.alloc (.cells Z 40)).alloc (.cells Z 40)) ∧ TwAp w p bi bl t u w3.heap.size (w3.heap.size + 1) := by
    have c1 : Chg NoB w3 ((w3.alloc (.cells Z 40)).alloc (.cells Z 40)) := ((Chg.refl NoB w3).alloc _).alloc _
    have c2 : Chg NoB (w3.alloc (.cells Z 40)) ((w3.alloc (.cells Z 40)).alloc (.cells Z 40)) := (Chg.refl NoB _).alloc _
    have b1 := c2.blk (show Blk (w3.alloc (.cells Z 40)) w3.heap.size Z 40 from bnew w3 _) (fun x => x)
    have b2 : Blk ((w3.alloc (.cells Z 40)).alloc (.cells Z 40)) (w3.alloc (.cells Z 40)).heap.size Z 40 := bnew _ _
    rw [World.size_alloc] at b2
    have l1 := hL1.ti.lts p (.inl rfl)
    have l2 := hL1.ti.lts bi (.inr (.inl rfl))
    have l3 := hL1.ti.lts bl (.inr (.inr (.inl rfl)))
    have l4 := hL1.ti.lts t (.inr (.inr (.inr (.inl rfl))))
    have l5 := hL2.ti.lts u (.inr (.inr (.inr (.inl rfl))))
    have l6 := hL1.ti.tl.pl.ch.size
    exact ⟨⟨S2, B2, r1, r2, o1, o2, s1, s2, hL1.keep c1, hL2.keep c1, ⟨Z, b1, hz3⟩, ⟨Z, b2, hz3⟩, hdj, hbk⟩, ⟨⟨by omega, by omega, by omega, by omega, by omega⟩, ⟨by omega, by omega, by omega, by omega, by omega⟩⟩, ⟨⟨by omega, by omega, by omega, by omega, by omega⟩, ⟨by omega, by omega, by omega, by omega, by omega⟩⟩, htu, by omega⟩
  have HS := Lib.hid hSA
  clear hn2 hL1 hL2 hdj hbk htu hz3 hSA
  go_wp2_with fail
  clear hz1 hz2
  obtain ⟨g, hg⟩ : ∃ g, g = w3.heap.size := ⟨_, rfl⟩
  obtain ⟨h, hh⟩ : ∃ h, h = w3.heap.size + 1 := ⟨_, rfl⟩
  obtain ⟨w4, hw4⟩ : ∃ w4, w4 = (w3.alloc (.cells Z 40)).alloc (.cells Z 40) := ⟨_, rfl⟩
  have hS := HS.out.1
  have hap := Lib.hid HS.out.2
  rw [← hw4, ← hh, ← hg] at hS
  rw [← hw4, ← hh, ← hg]
  rw [← hh, ← hg] at hap
  have hBR : TwRel w pm bl p b bi t u g h (la + lb) (.int .i64 0) w4 := ⟨0, _, _, Nat.zero_le _, rfl, hS⟩
  clear HS hg hh hw4 hS
  go_loopw [13] (fun i wr => TwRel w pm bl p b bi t u g h (la + lb) i wr) (fun i wr => la + lb - (intOf i).toNat)
  case atStart => exact hBR
  case round =>
    clear hBR
    obtain ⟨k, L1, L2, hk, rfl, hS⟩ := hrel
    rcases Nat.lt_or_ge k la with ka | ka
    · have a0 : decide ((k : Int) < (la : Int)) = true := decide_eq_true (by omega)
      have a1 : decide (k < la) = true := decide_eq_true ka
      have a2 : (k : Int) < (la : Int) := by omega
      have hk1 : k + 1 ≤ la + lb := by omega
      have hms := Lib.hid (show la + lb - ((k : Int) + 1).toNat < la + lb - (k : Int).toNat by omega)
      go_upto_block 1 with fail
      go_step
      go_step
      go_cut [] (fun wx => TwAft w pm bl p b bi t u g h L2 wx)
      case first =>
        obtain ⟨ad, hAd, hat⟩ : ∃ ad, A = some ad ∧ TActAt w ad k (X k) := by
          rcases HA.out.1 with ⟨_, h0, _⟩ | ⟨ad, e, _, _, hat⟩
          · omega
          · exact ⟨ad, e, hat k ka⟩
        subst hAd
        have KH := Lib.hid (show ∀ W, Chg NoB w W → W.cell? (ad.add (k * 4)) = some (.int .i64 (X k).page) ∧ W.cell? ⟨(ad.add (k * 4)).block, (ad.add (k * 4)).off + 1, none⟩ = some (.int .i64 (X k).ent.1) ∧ W.cell? ⟨(ad.add (k * 4)).block, (ad.add (k * 4)).off + 2, none⟩ = some (.int .i64 (X k).ent.2.1) ∧ W.cell? ⟨(ad.add (k * 4)).block, (ad.add (k * 4)).off + 3, none⟩ = some (.bool (X k).ent.2.2) from fun W hc => (hat.old hc).four)
        obtain ⟨x0, x1, x2, x3⟩ := KH.out _ hS.ch.drew
        have hst := (hS.keep ((Chg.refl NoB wr).drew)).set hap.out (X k).page (X k).ent
        unfold eV at hst
        generalize X k = x at *
        obtain ⟨xp, xk, xn, xw⟩ := x
        dsimp only [TAct.ent] at x0 x1 x2 x3 hst KH
        clear hS hat
        go_wp2_with fail
        go_region_held_law (fun w' => w'.cell? (ad.add (k * 4)) = some (.int .i64 xp) ∧ w'.cell? ⟨(ad.add (k * 4)).block, (ad.add (k * 4)).off + 1, none⟩ = some (.int .i64 xk) ∧ w'.cell? ⟨(ad.add (k * 4)).block, (ad.add (k * 4)).off + 2, none⟩ = some (.int .i64 xn) ∧ w'.cell? ⟨(ad.add (k * 4)).block, (ad.add (k * 4)).off + 3, none⟩ = some (.bool xw)) (first | go_keep | exact f4)
          (first | (go_at_call 10; ((with_reducible refine hst.mono ?_); rintro e w5 ⟨E, L', rfl, hS5, hE⟩; have f4 := KH.out w5 hS5.ch)))
        all_goals
          clear hst f4 x0 x1 x2 x3
          rcases hE with ⟨rfl, hp, rfl⟩ | ⟨hE, rfl⟩
          · obtain ⟨P, rfl⟩ : ∃ P : Nat, xp = (P : Int) := ⟨xp.toNat, by omega⟩
            have hP4 : P < 4096 := by omega
            have i5 : (P : Int) < 4096 := by omega
            rw [Int.toNat_natCast] at hS5
            obtain ⟨x0, x1, x2, x3⟩ := KH.out w5.drew hS5.ch.drew
            obtain ⟨q0, q1, q2, qf⟩ := (hS5.at1.chg ((Chg.refl NoB w5).drew) (fun x => x)).at_ hP4
            have qf0 := qf (P * 3)
            have qf1 := qf (P * 3 + 1)
            have qf2 := qf (P * 3 + 2)
            obtain ⟨q3, q4, q5, qg⟩ := hS5.at1.at_ hP4
            have qg0 := qg (P * 3)
            have qg1 := qg (P * 3 + 1)
            have qg2 := qg (P * 3 + 2)
            have F := Lib.hid ((hS5.store hap.out hP4 (xk, xn, xw)).keep ((Chg.refl NoB _).drew))
            clear hS5 qf qg KH hp
            go_wp2_with fail
            go_region
            go_wp2_with fail
            go_meet
            exact ⟨_, F.out⟩
          · have dE : (E == 0) = false := by rw [beq_eq_false_iff_ne]; exact hE
            have F := Lib.hid hS5
            clear hS5 KH hE
            go_wp2_with fail
            go_meet
            exact ⟨_, F.out⟩
      case rest =>
        obtain ⟨L5, hS⟩ := hcut
        rcases Nat.lt_or_ge k lb with kb | kb
        · have b0 : decide ((k : Int) < (lb : Int)) = true := decide_eq_true (by omega)
          have b1 : decide (k < lb) = true := decide_eq_true kb
          have b2 : (k : Int) < (lb : Int) := by omega
          obtain ⟨ae, hAd, hat⟩ : ∃ ad, A2 = some ad ∧ TActAt w ad k (Y k) := by
            rcases HA.out.2 with ⟨_, h0, _⟩ | ⟨ad, e, _, _, hat⟩
            · omega
            · exact ⟨ad, e, hat k kb⟩
          subst hAd
          have KH := Lib.hid (show ∀ W, Chg NoB w W → W.cell? (ae.add (k * 4)) = some (.int .i64 (Y k).page) ∧ W.cell? ⟨(ae.add (k * 4)).block, (ae.add (k * 4)).off + 1, none⟩ = some (.int .i64 (Y k).ent.1) ∧ W.cell? ⟨(ae.add (k * 4)).block, (ae.add (k * 4)).off + 2, none⟩ = some (.int .i64 (Y k).ent.2.1) ∧ W.cell? ⟨(ae.add (k * 4)).block, (ae.add (k * 4)).off + 3, none⟩ = some (.bool (Y k).ent.2.2) from fun W hc => (hat.old hc).four)
          obtain ⟨x0, x1, x2, x3⟩ := KH.out _ hS.ch.drew
          have hst := (hS.keep ((Chg.refl NoB wc).drew)).swap.set hap.out.swap (Y k).page (Y k).ent
          unfold eV at hst
          generalize Y k = x at *
          obtain ⟨xp, xk, xn, xw⟩ := x
          dsimp only [TAct.ent] at x0 x1 x2 x3 hst KH
          clear hS hat
          go_wp2_with fail
          go_region_held_law (fun w' => w'.cell? (ae.add (k * 4)) = some (.int .i64 xp) ∧ w'.cell? ⟨(ae.add (k * 4)).block, (ae.add (k * 4)).off + 1, none⟩ = some (.int .i64 xk) ∧ w'.cell? ⟨(ae.add (k * 4)).block, (ae.add (k * 4)).off + 2, none⟩ = some (.int .i64 xn) ∧ w'.cell? ⟨(ae.add (k * 4)).block, (ae.add (k * 4)).off + 3, none⟩ = some (.bool xw)) (first | go_keep | exact f4)
            (first | (go_at_call 10; ((with_reducible refine hst.mono ?_); rintro e w5 ⟨E, L', rfl, hS5, hE⟩; have f4 := KH.out w5 hS5.ch)))
          all_goals
            clear hst f4 x0 x1 x2 x3
            rcases hE with ⟨rfl, hp, rfl⟩ | ⟨hE, rfl⟩
            · obtain ⟨P, rfl⟩ : ∃ P : Nat, xp = (P : Int) := ⟨xp.toNat, by omega⟩
              have hP4 : P < 4096 := by omega
              have i5 : (P : Int) < 4096 := by omega
              rw [Int.toNat_natCast] at hS5
              obtain ⟨x0, x1, x2, x3⟩ := KH.out w5.drew hS5.ch.drew
              obtain ⟨q0, q1, q2, qf⟩ := (hS5.at1.chg ((Chg.refl NoB w5).drew) (fun x => x)).at_ hP4
              have qf0 := qf (P * 3)
              have qf1 := qf (P * 3 + 1)
              have qf2 := qf (P * 3 + 2)
              obtain ⟨q3, q4, q5, qg⟩ := hS5.at1.at_ hP4
              have qg0 := qg (P * 3)
              have qg1 := qg (P * 3 + 1)
              have qg2 := qg (P * 3 + 2)
              have F := Lib.hid ((hS5.store hap.out.swap hP4 (xk, xn, xw)).keep ((Chg.refl NoB _).drew))
              clear hS5 qf qg KH hp
              go_wp2_with fail
              go_region
              go_wp2_with fail
              exact ⟨⟨k + 1, _, _, hk1, rfl, F.out.swap⟩, hms.out⟩
            · have dE : (E == 0) = false := by rw [beq_eq_false_iff_ne]; exact hE
              have F := Lib.hid hS5
              clear hS5 KH hE
              go_wp2_with fail
              exact ⟨⟨k + 1, _, _, hk1, rfl, F.out.swap⟩, hms.out⟩
        · have b0 : decide ((k : Int) < (lb : Int)) = false := decide_eq_false (by omega)
          have b1 : decide (k < lb) = false := decide_eq_false (by omega)
          have F := Lib.hid hS
          clear hS
          go_wp2_with fail
          go_quiet (fail)
          go_wp2_with fail
          exact ⟨⟨k + 1, _, _, hk1, rfl, F.out.keep ((Chg.refl NoB _).drewN _)⟩, hms.out⟩
    · have a0 : decide ((k : Int) < (la : Int)) = false := decide_eq_false (by omega)
      have a1 : decide (k < la) = false := decide_eq_false (by omega)
      rcases Nat.lt_or_ge k lb with kb | kb
      · have b0 : decide ((k : Int) < (lb : Int)) = true := decide_eq_true (by omega)
        have b1 : decide (k < lb) = true := decide_eq_true kb
        have b2 : (k : Int) < (lb : Int) := by omega
        have hk1 : k + 1 ≤ la + lb := by omega
        have hms := Lib.hid (show la + lb - ((k : Int) + 1).toNat < la + lb - (k : Int).toNat by omega)
        go_upto_block 1 with fail
        go_step
        go_step
        go_cut [] (fun wx => TwAft w pm bl p b bi t u g h L2 wx)
        case first =>
          have F := Lib.hid hS
          clear hS
          go_wp2_with fail
          go_quiet (fail)
          go_wp2_with fail
          go_meet
          exact ⟨_, F.out.keep ((Chg.refl NoB _).drewN _)⟩
        case rest =>
          obtain ⟨L5, hS⟩ := hcut
          obtain ⟨ae, hAd, hat⟩ : ∃ ad, A2 = some ad ∧ TActAt w ad k (Y k) := by
            rcases HA.out.2 with ⟨_, h0, _⟩ | ⟨ad, e, _, _, hat⟩
            · omega
            · exact ⟨ad, e, hat k kb⟩
          subst hAd
          have KH := Lib.hid (show ∀ W, Chg NoB w W → W.cell? (ae.add (k * 4)) = some (.int .i64 (Y k).page) ∧ W.cell? ⟨(ae.add (k * 4)).block, (ae.add (k * 4)).off + 1, none⟩ = some (.int .i64 (Y k).ent.1) ∧ W.cell? ⟨(ae.add (k * 4)).block, (ae.add (k * 4)).off + 2, none⟩ = some (.int .i64 (Y k).ent.2.1) ∧ W.cell? ⟨(ae.add (k * 4)).block, (ae.add (k * 4)).off + 3, none⟩ = some (.bool (Y k).ent.2.2) from fun W hc => (hat.old hc).four)
          obtain ⟨x0, x1, x2, x3⟩ := KH.out _ hS.ch.drew
          have hst := (hS.keep ((Chg.refl NoB wc).drew)).swap.set hap.out.swap (Y k).page (Y k).ent
          unfold eV at hst
          generalize Y k = x at *
          obtain ⟨xp, xk, xn, xw⟩ := x
          dsimp only [TAct.ent] at x0 x1 x2 x3 hst KH
          clear hS hat
          go_wp2_with fail
          go_region_held_law (fun w' => w'.cell? (ae.add (k * 4)) = some (.int .i64 xp) ∧ w'.cell? ⟨(ae.add (k * 4)).block, (ae.add (k * 4)).off + 1, none⟩ = some (.int .i64 xk) ∧ w'.cell? ⟨(ae.add (k * 4)).block, (ae.add (k * 4)).off + 2, none⟩ = some (.int .i64 xn) ∧ w'.cell? ⟨(ae.add (k * 4)).block, (ae.add (k * 4)).off + 3, none⟩ = some (.bool xw)) (first | go_keep | exact f4)
            (first | (go_at_call 10; ((with_reducible refine hst.mono ?_); rintro e w5 ⟨E, L', rfl, hS5, hE⟩; have f4 := KH.out w5 hS5.ch)))
          all_goals
            clear hst f4 x0 x1 x2 x3
            rcases hE with ⟨rfl, hp, rfl⟩ | ⟨hE, rfl⟩
            · obtain ⟨P, rfl⟩ : ∃ P : Nat, xp = (P : Int) := ⟨xp.toNat, by omega⟩
              have hP4 : P < 4096 := by omega
              have i5 : (P : Int) < 4096 := by omega
              rw [Int.toNat_natCast] at hS5
              obtain ⟨x0, x1, x2, x3⟩ := KH.out w5.drew hS5.ch.drew
              obtain ⟨q0, q1, q2, qf⟩ := (hS5.at1.chg ((Chg.refl NoB w5).drew) (fun x => x)).at_ hP4
              have qf0 := qf (P * 3)
              have qf1 := qf (P * 3 + 1)
              have qf2 := qf (P * 3 + 2)
              obtain ⟨q3, q4, q5, qg⟩ := hS5.at1.at_ hP4
              have qg0 := qg (P * 3)
              have qg1 := qg (P * 3 + 1)
              have qg2 := qg (P * 3 + 2)
              have F := Lib.hid ((hS5.store hap.out.swap hP4 (xk, xn, xw)).keep ((Chg.refl NoB _).drew))
              clear hS5 qf qg KH hp
              go_wp2_with fail
              go_region
              go_wp2_with fail
              exact ⟨⟨k + 1, _, _, hk1, rfl, F.out.swap⟩, hms.out⟩
            · have dE : (E == 0) = false := by rw [beq_eq_false_iff_ne]; exact hE
              have F := Lib.hid hS5
              clear hS5 KH hE
              go_wp2_with fail
              exact ⟨⟨k + 1, _, _, hk1, rfl, F.out.swap⟩, hms.out⟩
      · have b0 : decide ((k : Int) < (lb : Int)) = false := decide_eq_false (by omega)
        have b1 : decide (k < lb) = false := decide_eq_false (by omega)
        have hGB : TwGet w pm bl p b bi t u g h L1 L2 (.int .i64 0) wr := ⟨0, Nat.zero_le _, rfl, hS⟩
        clear hS hk ka kb
        go_wp2_with fail
        go_loopw [14] (fun i wx => TwGet w pm bl p b bi t u g h L1 L2 i wx) (fun i wx => 4096 - (intOf i).toNat)
        case atStart => exact hGB
        case round =>
          clear hGB
          obtain ⟨q, hq, rfl, hS⟩ := hrel
          rcases Nat.eq_or_lt_of_le hq with hq2 | hq2
          · have f0 : decide ((q : Int) < 4096) = false := decide_eq_false (by omega)
            have f1 : decide (q < 4096) = false := decide_eq_false (by omega)
            clear hq hq2
            obtain ⟨S, B, r1, r2, o1, o2, s1, s2, hL1, hL2, _, _, hdj, _⟩ := hS
            have htb := tables_any hL1.ti.tl hL1.ti.len
            obtain ⟨m, hm⟩ : ∃ m, m = s1.own.length := ⟨_, rfl⟩
            have hm1 : m ≤ 1024 := by rw [hm]; exact hL1.ti.len
            have hm0 : 0 < m := by
              rw [hm]
              exact List.length_pos_of_mem ((hL1.ti.ok.mem r1).mpr ⟨0, 0, hL1.ti.rt⟩)
            obtain ⟨ss, hss⟩ : ∃ ss, ss = sortN s1.own := ⟨_, rfl⟩
            have hsl : ss.length = m := by rw [hss, sorted_len, hm]
            have hso : ∀ f, f ∈ ss → f ∉ s2.own := fun f hf => hdj f (by rw [hss, sorted_mem] at hf; exact hf)
            unfold TabsTo at htb
            rw [← hm, ← hss] at htb
            have HL := Lib.hid (And.intro hL2 (And.intro hsl hso))
            have HN := Lib.hid (And.intro hm0 hm1)
            clear hL1 hL2 hdj hm hss hsl hso hm0
            go_wp2_with fail
            refine htb.mono ?_
            rintro e w7 ⟨v7, rfl, hrow7, hC7⟩
            obtain ⟨gl, cl, rfl, hgl, _⟩ := own_pos hrow7 (Nat.pos_iff_ne_zero.mp HN.out.1)
            have H7 := Lib.hid (And.intro (HL.out.1.keep hC7) hrow7)
            have hIn : Chg NoB w7 w7 := Chg.refl _ _
            clear htb hC7 hrow7
            dsimp only
            go_wp2_with fail
            go_loopw [20] (fun i wx => ∃ j : Nat, j ≤ m ∧ i = .int .i64 (j : Int) ∧ Chg NoB w7 wx) (fun i wx => m - (intOf i).toNat)
            case atStart => exact ⟨0, Nat.zero_le _, rfl, Chg.refl _ _⟩
            case round =>
              clear hIn
              obtain ⟨j, hj, rfl, hCj⟩ := hrel
              have hLj := H7.out.1.keep hCj
              rcases Nat.eq_or_lt_of_le hj with hj2 | hj2
              · have g0 : decide ((j : Int) < (m : Int)) = false := decide_eq_false (by omega)
                have g1 : decide (j < m) = false := decide_eq_false (by omega)
                have han := answers_any wr
                have HJ := Lib.hid hLj
                clear hCj hLj hj2 hj
                go_wp2_with fail
                refine han.mono ?_
                rintro e w8 ⟨rfl, hC8⟩
                have F := Lib.hid (show True1 w (.returned (.bool true)) w8 from ⟨rfl, HJ.out.ti.tl.pl.ch.trans hC8 (fun _ _ x => x)⟩)
                clear han hC8 HJ
                go_wp2_with fail
                go_ret
                exact F.out
              · have g0 : decide ((j : Int) < (m : Int)) = true := decide_eq_true (by omega)
                have g1 : decide (j < m) = true := decide_eq_true hj2
                have i3 : (j : Int) < (m : Int) := by omega
                have hrw := Own.own_chg H7.out.2 hCj (fun _ _ x => x)
                obtain ⟨fj, hfj⟩ : ∃ fj, ss[j]? = some fj := ⟨_, List.getElem?_eq_getElem (by rw [HL.out.2.1]; exact hj2)⟩
                have c0 : wr.cell? ⟨gl, j, none⟩ = some (.int .i64 (fj : Int)) := by
                  rw [hrw.cellAt j (by rw [Nat.mul_one]; exact hj2)]
                  exact ownV_at hfj
                have how := owns_any (fj : Int) hLj.ti.tl hLj.ti.len
                rw [decide_eq_false (show ¬ (fj : Int) ∈ ownI s2.own from fun x => by
                  obtain ⟨f2, hf2, e2⟩ := List.mem_map.mp x
                  have : f2 = fj := by omega
                  rw [this] at hf2
                  exact HL.out.2.2 fj (List.mem_of_getElem? hfj) hf2)] at how
                have hms := Lib.hid (show m - ((j : Int) + 1).toNat < m - (j : Int).toNat by omega)
                have F := Lib.hid (show ∃ j' : Nat, j' ≤ m ∧ Value.int .i64 ((j : Int) + 1) = .int .i64 (j' : Int) ∧ Chg NoB w7 wr from ⟨j + 1, hj2, rfl, hCj⟩)
                clear hCj hLj hrw hfj
                go_wp2_with fail
                refine how.mono ?_
                rintro e w8 ⟨rfl, rfl⟩
                clear how
                go_wp2_with fail
                exact ⟨F.out, hms.out⟩
          · have f0 : decide ((q : Int) < 4096) = true := decide_eq_true (by omega)
            have f1 : decide (q < 4096) = true := decide_eq_true hq2
            have i2 : (q : Int) < 4096 := by omega
            have hms := Lib.hid (show 4096 - ((q : Int) + 1).toNat < 4096 - (q : Int).toNat by omega)
            have hg1 := hS.get q hq2
            have HS := Lib.hid hS
            unfold eV at hg1
            clear hS
            go_wp2_with fail
            refine hg1.mono ?_
            rintro e w5 ⟨rfl, hC5⟩
            have cA : Chg NoB wr (w5.alloc (.cells #[.int .i64 (L1 q).1, .int .i64 (L1 q).2.1, .bool (L1 q).2.2] 33)) := hC5.alloc _
            have hg2 := (HS.out.keep cA).swap.get q hq2
            unfold eV at hg2
            have CA := Lib.hid cA
            clear hg1 hC5 cA
            go_wp2_with fail
            refine hg2.mono ?_
            rintro e w6 ⟨rfl, hC6⟩
            have hC7 : Chg NoB (w5.alloc (.cells #[.int .i64 (L1 q).1, .int .i64 (L1 q).2.1, .bool (L1 q).2.2] 33)) (w6.alloc (.cells #[.int .i64 (L2 q).1, .int .i64 (L2 q).2.1, .bool (L2 q).2.2] 33)) := hC6.alloc _
            have cB := CA.out.trans hC7 (fun _ _ x => x)
            have bX := hC7.blk (show Blk (w5.alloc (.cells #[.int .i64 (L1 q).1, .int .i64 (L1 q).2.1, .bool (L1 q).2.2] 33)) w5.heap.size #[.int .i64 (L1 q).1, .int .i64 (L1 q).2.1, .bool (L1 q).2.2] 33 from bnew w5 _) (fun x => x)
            have bY : Blk (w6.alloc (.cells #[.int .i64 (L2 q).1, .int .i64 (L2 q).2.1, .bool (L2 q).2.2] 33)) w6.heap.size #[.int .i64 (L2 q).1, .int .i64 (L2 q).2.1, .bool (L2 q).2.2] 33 := bnew w6 _
            have x0 : (w6.alloc (.cells #[.int .i64 (L2 q).1, .int .i64 (L2 q).2.1, .bool (L2 q).2.2] 33)).cell? ⟨w5.heap.size, 0, none⟩ = some (.int .i64 (L1 q).1) := by rw [bcell bX]; rfl
            have x1 : (w6.alloc (.cells #[.int .i64 (L2 q).1, .int .i64 (L2 q).2.1, .bool (L2 q).2.2] 33)).cell? ⟨w5.heap.size, 1, none⟩ = some (.int .i64 (L1 q).2.1) := by rw [bcell bX]; rfl
            have x2 : (w6.alloc (.cells #[.int .i64 (L2 q).1, .int .i64 (L2 q).2.1, .bool (L2 q).2.2] 33)).cell? ⟨w5.heap.size, 2, none⟩ = some (.bool (L1 q).2.2) := by rw [bcell bX]; rfl
            have y0 : (w6.alloc (.cells #[.int .i64 (L2 q).1, .int .i64 (L2 q).2.1, .bool (L2 q).2.2] 33)).cell? ⟨w6.heap.size, 0, none⟩ = some (.int .i64 (L2 q).1) := by rw [bcell bY]; rfl
            have y1 : (w6.alloc (.cells #[.int .i64 (L2 q).1, .int .i64 (L2 q).2.1, .bool (L2 q).2.2] 33)).cell? ⟨w6.heap.size, 1, none⟩ = some (.int .i64 (L2 q).2.1) := by rw [bcell bY]; rfl
            have y2 : (w6.alloc (.cells #[.int .i64 (L2 q).1, .int .i64 (L2 q).2.1, .bool (L2 q).2.2] 33)).cell? ⟨w6.heap.size, 2, none⟩ = some (.bool (L2 q).2.2) := by rw [bcell bY]; rfl
            obtain ⟨q0, q1, q2, _⟩ := (HS.out.at1.chg cB (fun x => x)).at_ hq2
            obtain ⟨r0, r1, r2, _⟩ := (HS.out.swap.at1.chg cB (fun x => x)).at_ hq2
            have F := Lib.hid (show ∀ W, Chg NoB wr W → TwGet w pm bl p b bi t u g h L1 L2 (.int .i64 ((q : Int) + 1)) W from fun W hc => ⟨q + 1, hq2, rfl, HS.out.keep hc⟩)
            have CB := Lib.hid cB
            generalize (L1 q).1 = kk at *
            generalize (L1 q).2.1 = kn at *
            generalize (L1 q).2.2 = kw at *
            generalize (L2 q).1 = lk at *
            generalize (L2 q).2.1 = ln at *
            generalize (L2 q).2.2 = lw at *
            clear hg2 hC6 hC7 cB bX bY HS CA
            go_wp2_with fail
            go_quiet (fail)
            go_wp2_with fail
            exact ⟨F.out _ (CB.out.drewN _), hms.out⟩
set_option maxRecDepth 100000 in
theorem treeTwo (A : Option Addr) (la ca : Nat) (X : Nat → TAct) (A2 : Option Addr) (lb cb : Nat) (Y : Nat → TAct) (w : World) (h1 : (la : Int) ≤ 9223372036854775807) (h2 : (lb : Int) ≤ 9223372036854775807) (hx : IsTActs w A la ca X) (hy : IsTActs w A2 lb cb Y) :
    Calls Try.prog 4 #[.slice A la ca, .slice A2 lb cb] w (True1 w) := by
  rcases Nat.lt_or_ge 20 la with h60 | h60
  · have d0 : decide ((20 : Int) < (la : Int)) = true := decide_eq_true (by omega)
    have d1 : decide (20 < la) = true := decide_eq_true h60
    clear hx hy
    go_enter Try.func4, Try.ntmps4
    go_wp2_with fail
    refine (answers_any w).mono ?_
    rintro e w1 ⟨rfl, hC⟩
    go_wp2_with fail
    go_ret
    exact ⟨rfl, hC⟩
  · rcases Nat.lt_or_ge 20 lb with h61 | h61
    · have d0 : decide ((20 : Int) < (la : Int)) = false := decide_eq_false (by omega)
      have d1 : decide (20 < la) = false := decide_eq_false (by omega)
      have d2 : decide ((20 : Int) < (lb : Int)) = true := decide_eq_true (by omega)
      have d3 : decide (20 < lb) = true := decide_eq_true h61
      clear hx hy
      go_enter Try.func4, Try.ntmps4
      go_wp2_with fail
      refine (answers_any w).mono ?_
      rintro e w1 ⟨rfl, hC⟩
      go_wp2_with fail
      go_ret
      exact ⟨rfl, hC⟩
    · exact treeTwo_main A la ca X A2 lb cb Y w h60 h61 hx hy
theorem acts_len {w : World} {A : Option Addr} {len cap : Nat} {X : Nat → TAct} (h : IsTActs w A len cap X) : (len : Int) ≤ 9223372036854775807 := by
  rcases h with ⟨_, h, _⟩ | ⟨_, _, h1, h2, _⟩
  · omega
  · unfold maxLen at h2; omega
theorem treeTwo_row (a : Option Addr) (len cap : Nat) (X : Nat → TAct) (a2 : Option Addr) (len2 cap2 : Nat) (Y : Nat → TAct) (W : World) (w0 : IsTActs W a len cap X) (w1 : IsTActs W a2 len2 cap2 Y) :
    Calls Try.prog 4 #[.slice a len cap, .slice a2 len2 cap2] W fun e w' => e = .returned (.bool true) ∧ Below W.heap.size W w' :=
  (treeTwo a len cap X a2 len2 cap2 Y W (acts_len w0) (acts_len w1) w0 w1).mono fun _ _ h => h.row
end Go.Proofs.Ytimdojkhdneecaa.Tree
