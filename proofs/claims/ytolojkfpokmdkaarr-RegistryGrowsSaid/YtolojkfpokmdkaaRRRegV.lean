/- Chapter 7: RegistryGrows. -/
import Derived.Test.YtolojkfpokmdkaaRRRegU
namespace Go.Proofs.YtolojkfpokmdkaaRR.Reg
open Go.RowKit Go.Proofs.YtolojkfpokmdkaaRR.Hp Go.Proofs.YtolojkfpokmdkaaRR.By Go.Proofs.YtolojkfpokmdkaaRR.Disk Go.Proofs.YtolojkfpokmdkaaRR.Word Go.Proofs.YtolojkfpokmdkaaRR.WordP Go.Proofs.YtolojkfpokmdkaaRR.Log Go.Proofs.YtolojkfpokmdkaaRR.Slot Go.Proofs.YtolojkfpokmdkaaRR.Jour
set_option linter.unusedVariables false
set_option linter.unusedSimpArgs false
theorem GAt.four {w : World} {ad : Addr} {i : Nat} {x : GAct} (h : GAt w ad i x) : w.cell? (ad.add (i * 4)) = some (.slice x.A x.len x.cap) ∧ w.cell? ⟨(ad.add (i * 4)).block, (ad.add (i * 4)).off + 1, none⟩ = some (.bool x.set_) ∧ w.cell? ⟨(ad.add (i * 4)).block, (ad.add (i * 4)).off + 2, none⟩ = some (.int .i64 x.sc) ∧ w.cell? ⟨(ad.add (i * 4)).block, (ad.add (i * 4)).off + 3, none⟩ = some (.int .i64 x.st) := by
  have h0 := h.1 0 _ rfl
  have h1 := h.1 1 _ rfl
  have h2 := h.1 2 _ rfl
  have h3 := h.1 3 _ rfl
  have e : ∀ k, 0 < k → ad.add (i * 4 + k) = ⟨(ad.add (i * 4)).block, (ad.add (i * 4)).off + k, none⟩ := fun k hk => by
    unfold Addr.add
    by_cases c : i * 4 = 0
    · have c2 : ¬ (i * 4 + k = 0) := by omega
      rw [if_neg c2, if_pos c]; simp [c]
    · have c2 : ¬ (i * 4 + k = 0) := by omega
      rw [if_neg c2, if_neg c]; simp [Nat.add_assoc]
  rw [e 1 (by decide)] at h1
  rw [e 2 (by decide)] at h2
  rw [e 3 (by decide)] at h3
  exact ⟨h0, h1, h2, h3⟩
theorem sizeAct : (Try.prog.info? 41).map (·.size) = some 4 := by kernel_rfl
theorem run_load_act (w : World) (ad : Addr) (i : Nat) (x : GAct) (h : GAt w ad i x) : (loadVar 41 (ad.add (i * 4))).run Try.prog w = .ok (.agg #[.slice x.A x.len x.cap, .bool x.set_, .int .i64 x.sc, .int .i64 x.st]) w := by
  have hadd : ∀ (a : Addr) (p q : Nat), (a.add p).add q = a.add (p + q) := fun a p q => by
    unfold Addr.add
    by_cases c1 : p = 0
    · subst c1; simp
    · by_cases c2 : q = 0
      · subst c2; simp [c1]
      · have c3 : ¬ (p + q = 0) := by omega
        simp [c1, c2, c3, Nat.add_assoc]
  have hl : (loadCells (ad.add (i * 4)) (gCells x).length).run Try.prog w = .ok (gCells x).toArray w :=
    run_loadCells_list (P := Try.prog) w (ad.add (i * 4)) (gCells x) (fun j v hv => by
      rw [hadd]
      exact h.1 j v hv)
  obtain ⟨t, ht1, ht2⟩ := Option.map_eq_some_iff.1 sizeAct
  have hl' : (loadCells (ad.add (i * 4)) 4).run Try.prog w = .ok (gCells x).toArray w := hl
  simp [loadVar, isAgg, run_underlying Try.underlying41, sizeOf, typeInfo, ht1, ht2, hl']
  rfl
theorem g_chg {w w' : World} {ad : Addr} {i : Nat} {x : GAct} (h : GAt w ad i x) (hc : Chg NoB w w') : GAt w' ad i x := by
  refine ⟨fun j v hv => hc.cell (h.1 j v hv) (fun e => e), ?_⟩
  rcases h.2 with h2 | ⟨a, h1, h2, h3, h4, h5, h6⟩
  · exact .inl h2
  · exact .inr ⟨a, h1, h2, h3, h4, fun q hq => hc.cell (h5 q hq) (fun e => e), h6⟩
theorem sub_skip {a b : Int} {t u : List Int} (h : (a :: t).Sublist (b :: u)) (hn : a ≠ b) : (a :: t).Sublist u := by
  cases h with
  | cons _ h => exact h
  | cons_cons _ h => exact absurd rfl hn
def GrRel (w : World) (d n : Nat) (rv i : Value) (wr : World) : Prop := ∃ (k : Nat) (r j bm : Nat) (x : RSt), k ≤ n ∧ i = .int .i64 (k : Int) ∧ rv = .pointer (some ⟨r, 0, none⟩) ∧ RegOn w r j bm d x k (2000 + 20 * k) wr
def Gw (l1 l2 : List Int) (w : World) (a b : Value) (wr : World) : Prop := ∃ p q : Nat, p ≤ l1.length ∧ q ≤ l2.length ∧ a = .int .i64 (p : Int) ∧ b = .int .i64 (q : Int) ∧ (l1.drop p).Sublist (l2.drop q) ∧ Chg NoB w wr
set_option maxRecDepth 100000 in
set_option maxHeartbeats 8000000 in
theorem registryGrows {w : World} (A : Option Addr) (n c : Nat) (X : Nat → GAct) (B : Option Addr) (c2 : Nat) (zs : List Int) (hA : IsG w A n c X) (hz : Rd w .u8 B zs) (hzb : ∀ z, z ∈ zs → 0 ≤ z ∧ z < 256) :
    Calls Try.prog 5 #[.slice A n c, .slice B zs.length c2] w (True1 w) := by
  obtain ⟨m, hm⟩ : ∃ m, m = zs.length := ⟨_, rfl⟩
  have HM := Lib.hid hm
  have H := Lib.hid (And.intro hA (And.intro hz hzb))
  have bm63 := hz.1
  rw [← hm] at bm63 ⊢
  clear hA hz hzb hm
  by_cases h60 : 60 < n
  · have d1 : decide (60 < (n : Int)) = true := decide_eq_true (by omega)
    have d2 : decide (60 < n) = true := decide_eq_true h60
    clear h60
    go_enter Try.func5, Try.ntmps5
    go_wp2_with fail
    refine (answers_any _).mono ?_
    rintro e w1 ⟨rfl, hC1⟩
    go_wp2_with fail
    go_ret
    exact ⟨rfl, hC1⟩
  · have d1 : decide (60 < (n : Int)) = false := decide_eq_false (by omega)
    have d2 : decide (60 < n) = false := decide_eq_false h60
    by_cases hm0 : m = 0
    · have d3 : ((m : Int) == 0) = true := by rw [beq_iff_eq]; omega
      have d4 : (m == 0) = true := by rw [beq_iff_eq]; exact hm0
      clear h60 hm0
      go_enter Try.func5, Try.ntmps5
      go_wp2_with fail
      refine (answers_any _).mono ?_
      rintro e w1 ⟨rfl, hC1⟩
      go_wp2_with fail
      go_ret
      exact ⟨rfl, hC1⟩
    · have d3 : ((m : Int) == 0) = false := by rw [beq_eq_false_iff_ne]; omega
      have d4 : (m == 0) = false := by rw [beq_eq_false_iff_ne]; exact hm0
      go_enter Try.func5, Try.ntmps5
      go_wp2_with fail
      refine (l_new 192 (by omega) (by omega) w).mono ?_
      rintro e w1 ⟨d, ρ, rfl, h1⟩
      have hop := new_on h1
      clear h1
      go_wp2_with fail
      refine hop.mono ?_
      rintro e w2 ⟨r, j, bm, rfl, h2⟩
      have hB : GrRel w d n (.pointer (some ⟨r, 0, none⟩)) (.int .i64 0) w2 := ⟨0, r, j, bm, _, Nat.zero_le _, rfl, rfl, h2⟩
      clear hop h2 d1 d2 d3 d4
      go_wp2_with fail
      go_loopw [6, 8] (fun rv i wr => GrRel w d n rv i wr) (fun rv i wr => n - (intOf i).toNat)
      case atStart => exact hB
      case round =>
        clear hB
        obtain ⟨k, r, j, bm, x, hk, rfl, rfl, hR⟩ := hrel
        rcases Nat.eq_or_lt_of_le hk with hk2 | hk2
        · have e0 : decide ((k : Int) < (n : Int)) = false := decide_eq_false (by omega)
          have e1 : decide (k < n) = false := decide_eq_false (by omega)
          have HC := Lib.hid hR.ch
          clear hR hk hk2 H
          go_wp2_with fail
          refine (answers_any _).mono ?_
          rintro e w3 ⟨rfl, hC3⟩
          go_wp2_with fail
          go_ret
          exact ⟨rfl, HC.out.trans hC3 (fun _ _ x => x)⟩
        · have e0 : decide ((k : Int) < (n : Int)) = true := decide_eq_true (by omega)
          have e1 : decide (k < n) = true := decide_eq_true hk2
          have i1 : (k : Int) < (n : Int) := by omega
          have hms := Lib.hid (show n - ((k : Int) + 1).toNat < n - (k : Int).toNat by omega)
          have hbd := bad_any hR.rm
          have HR := Lib.hid hR
          obtain ⟨ad, hAd, _, _, hG⟩ := H.out.1.resolve_left (fun e => by have := e.2.1; omega)
          subst hAd
          have HG := Lib.hid (hG k hk2)
          clear hR hG
          go_wp2_with fail
          refine hbd.mono ?_
          rintro e w3 ⟨v, rfl, hown, hC3⟩
          clear hbd
          have hl1 := badL_len x
          obtain ⟨A1, c1, rfl, _, hc1, hr1, ho1⟩ := own_rd hown (by omega)
          have hz3 := HR.out.z hC3
          have hwx := HR.out.ch.trans hC3 (fun _ _ x => x)
          have hga : GAt w3 ad k (X k) := g_chg HG.out hwx
          have hld := run_load_act w3 ad k (X k) hga
          have hdn := done_z hz3 (by omega) (by omega) (X k) hga.2
          obtain ⟨m1, hm1⟩ : ∃ m1, m1 = x.badL.length := ⟨_, rfl⟩
          rw [← hm1] at hl1 hc1 ⊢
          have H3 := Lib.hid (And.intro hr1 (And.intro ho1 (And.intro hC3 (And.intro hm1 (And.intro hc1 hk2)))))
          clear hr1 ho1 hC3 hm1 hz3 hga hown hwx hk hk2 hc1
          generalize (X k).A = xA at *
          generalize (X k).len = xl at *
          generalize (X k).cap = xc at *
          generalize (X k).set_ = xb at *
          generalize (X k).sc = xs at *
          generalize (X k).st = xt at *
          go_wp2_with (first | (with_reducible refine load_at rfl 41 _ rfl (ad.add (k * 4)) rfl _ hld ?_))
          refine hdn.mono ?_
          rintro e w4 ⟨E, x', rfl, hR4, hmore, hC4⟩
          clear hdn hld
          have HMO := Lib.hid hmore
          obtain ⟨q, hqd⟩ : ∃ q, q = k % m := ⟨_, rfl⟩
          have hqm : q < m := by rw [hqd]; exact Nat.mod_lt _ (by omega)
          have hq1 : (k : Int) % (m : Int) = (q : Int) := by rw [hqd]; omega
          have hq2 : (k : Int).tmod (m : Int) = (q : Int) := by rw [Int.tmod_eq_emod_of_nonneg (by omega)]; exact hq1
          have d3 : ((m : Int) == 0) = false := by rw [beq_eq_false_iff_ne]; omega
          have d4 : (m : Int) ≠ 0 := by omega
          have i1q : (q : Int) < (m : Int) := by omega
          obtain ⟨ab, hAb, hcb⟩ := H.out.2.1.at_ q (by rw [← HM.out]; exact hqm)
          subst hAb
          have x0 := hR4.on.ch.cell hcb (fun x => x)
          have hcz := H.out.2.2 (zs.getD q 0) (by
            rw [List.getD_eq_getElem?_getD, List.getElem?_eq_getElem (show q < zs.length by rw [← HM.out]; exact hqm)]; exact List.getElem_mem _)
          obtain ⟨cn, hcn⟩ : ∃ cn : Nat, zs.getD q 0 = (cn : Int) := ⟨(zs.getD q 0).toNat, by omega⟩
          rw [hcn] at x0 hcz
          have bcn : 0 ≤ (cn : Int) ∧ (cn : Int) < 256 := hcz
          clear hmore hcb hcz hcn hqd
          by_cases hc4 : cn % 4 = 0
          · have g4 : ((cn : Int) % 4 == 0) = true := by rw [beq_iff_eq]; omega
            have g5 : (cn % 4 == 0) = true := by rw [beq_iff_eq]; exact hc4
            have hcr := crash_z hR4 (cn : Int) (cn : Int) (by omega) (by omega)
            have HK4 := Lib.hid hC4
            clear hR4 hC4 hc4
            go_wp2_with fail
            refine hcr.mono ?_
            rintro e w5 ⟨rfl, hR5, hC5⟩
            have hop5 := open_z hR5 (by omega)
            have HK5' := Lib.hid (HK4.out.trans hC5 (fun _ _ x => x))
            clear hcr hR5 hC5 HK4
            go_wp2_with fail
            refine hop5.mono ?_
            rintro e w6 ⟨r6, j6, bm6, rfl, hR5, hC6⟩
            have hC5 := HK5'.out.trans hC6 (fun _ _ x => x)
            clear hop5 hC6 HK5'
            have hbd2 := bad_any hR5.rm
            have HR5 := Lib.hid hR5
            have HK5 := Lib.hid hC5
            clear hR5 hC5
            go_wp2_with fail
            refine hbd2.mono ?_
            rintro e w7 ⟨v7, rfl, hown7, hC7⟩
            clear hbd2
            have hl2 := badL_len x'
            obtain ⟨A2, c2', rfl, _, hc2, hr2, _⟩ := own_rd hown7 (by omega)
            have hr1' : Rd w7 .i64 A1 x.badL := (H3.out.1.chg HK5.out (fun hp b e z => z ⟨by have := H3.out.2.1 b e; omega, H3.out.1.lt hp b e⟩)).chg hC7 (fun _ _ _ x => x)
            have hsub := more_sub HMO.out
            obtain ⟨m2, hm2⟩ : ∃ m2, m2 = x'.badL.length := ⟨_, rfl⟩
            have hm1 := H3.out.2.2.2.1
            rw [← hm2] at hl2 hc2 ⊢
            have hB3 : Gw x.badL x'.badL w7 (.int .i64 0) (.int .i64 0) w7 := ⟨0, 0, Nat.zero_le _, Nat.zero_le _, rfl, rfl, by rw [List.drop_zero, List.drop_zero]; exact hsub, Chg.refl _ _⟩
            have FN := Lib.hid (show ∀ w9, Chg NoB w7 w9 → GrRel w d n (.pointer (some ⟨r6, 0, none⟩)) (.int .i64 ((k : Int) + 1)) w9 from fun w9 h9 => ⟨k + 1, r6, _, _, x', H3.out.2.2.2.2.2, rfl, rfl, (HR5.out.keep (hC7.trans h9 (fun _ _ x => x))).up (by omega) (by omega)⟩)
            have H7 := Lib.hid (And.intro hr1' (And.intro hr2 (And.intro hm1 (And.intro hm2 hsub))))
            clear hr1' hr2 hm1 hm2 hsub hown7 hC7 HR5 HK5 hc2
            go_wp2_with fail
            generalize x.badL = l1 at *
            generalize x'.badL = l2 at *
            go_loopw [12, 13] (fun a b wr => Gw l1 l2 w7 a b wr) (fun a b wr => m2 - (intOf b).toNat)
            case atStart => exact hB3
            case round =>
              clear hB3
              obtain ⟨p, q, hp, hq, rfl, rfl, hs, hC⟩ := hrel
              have hm1 := H7.out.2.2.1
              have hm2 := H7.out.2.2.2.1
              rw [← hm1] at hp
              rw [← hm2] at hq
              rcases Nat.eq_or_lt_of_le hq with hq2 | hq2
              · have s0 : decide ((q : Int) < (m2 : Int)) = false := decide_eq_false (by omega)
                have s1 : decide (q < m2) = false := decide_eq_false (by omega)
                rw [List.drop_eq_nil_of_le (show l2.length ≤ q by omega)] at hs
                have hd := List.sublist_nil.mp hs
                have hpm : p = m1 := by
                  have := congrArg List.length hd
                  rw [List.length_drop, List.length_nil] at this
                  omega
                have s2 : ((p : Int) != (m1 : Int)) = false := by rw [bne_eq_false_iff_eq, hpm]
                have s3 : (p != m1) = false := by rw [bne_eq_false_iff_eq, hpm]
                have F := Lib.hid (FN.out _ hC)
                clear hC hs hd hpm hp hq hq2 hm1 hm2 FN H7
                go_wp2_with fail
                exact ⟨F.out, hms.out⟩
              · have s0 : decide ((q : Int) < (m2 : Int)) = true := decide_eq_true (by omega)
                have s1 : decide (q < m2) = true := decide_eq_true hq2
                have i2 : (q : Int) < (m2 : Int) := by omega
                have hq3 : q < l2.length := by omega
                have hms2 := Lib.hid (show m2 - ((q : Int) + 1).toNat < m2 - (q : Int).toNat by omega)
                have ed : l2.drop q = l2.getD q 0 :: l2.drop (q + 1) := by
                  rw [List.drop_eq_getElem_cons hq3, List.getD_eq_getElem?_getD, List.getElem?_eq_getElem hq3]; rfl
                obtain ⟨a2, hA2, hcy⟩ := H7.out.2.1.at_ q hq3
                subst hA2
                have y2 := hC.cell hcy (fun x => x)
                rcases Nat.eq_or_lt_of_le hp with hp2 | hp2
                · have t0 : decide ((p : Int) < (m1 : Int)) = false := decide_eq_false (by omega)
                  have t1 : decide (p < m1) = false := decide_eq_false (by omega)
                  have F := Lib.hid (show ∀ w9, Chg NoB w7 w9 → Gw l1 l2 w7 (.int .i64 (p : Int)) (.int .i64 ((q : Int) + 1)) w9 from fun w9 h9 => ⟨p, q + 1, by omega, hq3, rfl, rfl, by
                    rw [List.drop_eq_nil_of_le (show l1.length ≤ p by omega)]
                    exact List.nil_sublist _, h9⟩)
                  have HC := Lib.hid hC
                  clear hC hs hp hq hq2 hp2 hm1 hm2 ed hcy hq3 FN H7
                  generalize l2.getD q 0 = y at *
                  go_wp2_with fail
                  go_quiet (fail)
                  have F' := Lib.hid (F.out _ (HC.out.drewN nq))
                  clear F HC
                  go_wp2_with fail
                  exact ⟨F'.out, hms2.out⟩
                · have t0 : decide ((p : Int) < (m1 : Int)) = true := decide_eq_true (by omega)
                  have t1 : decide (p < m1) = true := decide_eq_true hp2
                  have i3 : (p : Int) < (m1 : Int) := by omega
                  have hp3 : p < l1.length := by omega
                  have ed1 : l1.drop p = l1.getD p 0 :: l1.drop (p + 1) := by
                    rw [List.drop_eq_getElem_cons hp3, List.getD_eq_getElem?_getD, List.getElem?_eq_getElem hp3]; rfl
                  obtain ⟨a1, hA1, hcx⟩ := H7.out.1.at_ p hp3
                  subst hA1
                  have y1 := hC.cell hcx (fun x => x)
                  rw [ed1, ed] at hs
                  by_cases hxy : l1.getD p 0 = l2.getD q 0
                  · have g0 : (l1.getD p 0 == l2.getD q 0) = true := beq_iff_eq.mpr hxy
                    have F := Lib.hid (show ∀ w9, Chg NoB w7 w9 → Gw l1 l2 w7 (.int .i64 ((p : Int) + 1)) (.int .i64 ((q : Int) + 1)) w9 from fun w9 h9 => ⟨p + 1, q + 1, hp3, hq3, rfl, rfl, by
                      rw [hxy] at hs
                      exact List.cons_sublist_cons.mp hs, h9⟩)
                    have HC := Lib.hid hC
                    clear hC hs hp hq hq2 hp2 hm1 hm2 ed ed1 hcy hcx hq3 hp3 hxy FN H7
                    generalize l1.getD p 0 = z at *
                    generalize l2.getD q 0 = y at *
                    go_wp2_with fail
                    go_quiet (fail)
                    have F' := Lib.hid (F.out _ (HC.out.drewN nq))
                    clear F HC
                    go_wp2_with fail
                    exact ⟨F'.out, hms2.out⟩
                  · have g0 : (l1.getD p 0 == l2.getD q 0) = false := beq_eq_false_iff_ne.mpr hxy
                    have F := Lib.hid (show ∀ w9, Chg NoB w7 w9 → Gw l1 l2 w7 (.int .i64 (p : Int)) (.int .i64 ((q : Int) + 1)) w9 from fun w9 h9 => ⟨p, q + 1, by omega, hq3, rfl, rfl, by
                      rw [ed1]
                      exact sub_skip hs hxy, h9⟩)
                    have HC := Lib.hid hC
                    clear hC hs hp hq hq2 hp2 hm1 hm2 ed ed1 hcy hcx hq3 hp3 hxy FN H7
                    generalize l1.getD p 0 = z at *
                    generalize l2.getD q 0 = y at *
                    go_wp2_with fail
                    go_quiet (fail)
                    have F' := Lib.hid (F.out _ (HC.out.drewN nq))
                    clear F HC
                    go_wp2_with fail
                    exact ⟨F'.out, hms2.out⟩
          · have g4 : ((cn : Int) % 4 == 0) = false := by rw [beq_eq_false_iff_ne]; omega
            have g5 : (cn % 4 == 0) = false := by rw [beq_eq_false_iff_ne]; exact hc4
            have hR5 := hR4.on
            have hC5 := hC4
            clear hR4 hC4 hc4
            have hbd2 := bad_any hR5.rm
            have HR5 := Lib.hid hR5
            have HK5 := Lib.hid hC5
            clear hR5 hC5
            go_wp2_with fail
            refine hbd2.mono ?_
            rintro e w7 ⟨v7, rfl, hown7, hC7⟩
            clear hbd2
            have hl2 := badL_len x'
            obtain ⟨A2, c2', rfl, _, hc2, hr2, _⟩ := own_rd hown7 (by omega)
            have hr1' : Rd w7 .i64 A1 x.badL := (H3.out.1.chg HK5.out (fun hp b e z => z ⟨by have := H3.out.2.1 b e; omega, H3.out.1.lt hp b e⟩)).chg hC7 (fun _ _ _ x => x)
            have hsub := more_sub HMO.out
            obtain ⟨m2, hm2⟩ : ∃ m2, m2 = x'.badL.length := ⟨_, rfl⟩
            have hm1 := H3.out.2.2.2.1
            rw [← hm2] at hl2 hc2 ⊢
            have hB3 : Gw x.badL x'.badL w7 (.int .i64 0) (.int .i64 0) w7 := ⟨0, 0, Nat.zero_le _, Nat.zero_le _, rfl, rfl, by rw [List.drop_zero, List.drop_zero]; exact hsub, Chg.refl _ _⟩
            have FN := Lib.hid (show ∀ w9, Chg NoB w7 w9 → GrRel w d n (.pointer (some ⟨r, 0, none⟩)) (.int .i64 ((k : Int) + 1)) w9 from fun w9 h9 => ⟨k + 1, r, _, _, x', H3.out.2.2.2.2.2, rfl, rfl, (HR5.out.keep (hC7.trans h9 (fun _ _ x => x))).up (by omega) (by omega)⟩)
            have H7 := Lib.hid (And.intro hr1' (And.intro hr2 (And.intro hm1 (And.intro hm2 hsub))))
            clear hr1' hr2 hm1 hm2 hsub hown7 hC7 HR5 HK5 hc2
            go_wp2_with fail
            generalize x.badL = l1 at *
            generalize x'.badL = l2 at *
            go_loopw [12, 13] (fun a b wr => Gw l1 l2 w7 a b wr) (fun a b wr => m2 - (intOf b).toNat)
            case atStart => exact hB3
            case round =>
              clear hB3
              obtain ⟨p, q, hp, hq, rfl, rfl, hs, hC⟩ := hrel
              have hm1 := H7.out.2.2.1
              have hm2 := H7.out.2.2.2.1
              rw [← hm1] at hp
              rw [← hm2] at hq
              rcases Nat.eq_or_lt_of_le hq with hq2 | hq2
              · have s0 : decide ((q : Int) < (m2 : Int)) = false := decide_eq_false (by omega)
                have s1 : decide (q < m2) = false := decide_eq_false (by omega)
                rw [List.drop_eq_nil_of_le (show l2.length ≤ q by omega)] at hs
                have hd := List.sublist_nil.mp hs
                have hpm : p = m1 := by
                  have := congrArg List.length hd
                  rw [List.length_drop, List.length_nil] at this
                  omega
                have s2 : ((p : Int) != (m1 : Int)) = false := by rw [bne_eq_false_iff_eq, hpm]
                have s3 : (p != m1) = false := by rw [bne_eq_false_iff_eq, hpm]
                have F := Lib.hid (FN.out _ hC)
                clear hC hs hd hpm hp hq hq2 hm1 hm2 FN H7
                go_wp2_with fail
                exact ⟨F.out, hms.out⟩
              · have s0 : decide ((q : Int) < (m2 : Int)) = true := decide_eq_true (by omega)
                have s1 : decide (q < m2) = true := decide_eq_true hq2
                have i2 : (q : Int) < (m2 : Int) := by omega
                have hq3 : q < l2.length := by omega
                have hms2 := Lib.hid (show m2 - ((q : Int) + 1).toNat < m2 - (q : Int).toNat by omega)
                have ed : l2.drop q = l2.getD q 0 :: l2.drop (q + 1) := by
                  rw [List.drop_eq_getElem_cons hq3, List.getD_eq_getElem?_getD, List.getElem?_eq_getElem hq3]; rfl
                obtain ⟨a2, hA2, hcy⟩ := H7.out.2.1.at_ q hq3
                subst hA2
                have y2 := hC.cell hcy (fun x => x)
                rcases Nat.eq_or_lt_of_le hp with hp2 | hp2
                · have t0 : decide ((p : Int) < (m1 : Int)) = false := decide_eq_false (by omega)
                  have t1 : decide (p < m1) = false := decide_eq_false (by omega)
                  have F := Lib.hid (show ∀ w9, Chg NoB w7 w9 → Gw l1 l2 w7 (.int .i64 (p : Int)) (.int .i64 ((q : Int) + 1)) w9 from fun w9 h9 => ⟨p, q + 1, by omega, hq3, rfl, rfl, by
                    rw [List.drop_eq_nil_of_le (show l1.length ≤ p by omega)]
                    exact List.nil_sublist _, h9⟩)
                  have HC := Lib.hid hC
                  clear hC hs hp hq hq2 hp2 hm1 hm2 ed hcy hq3 FN H7
                  generalize l2.getD q 0 = y at *
                  go_wp2_with fail
                  go_quiet (fail)
                  have F' := Lib.hid (F.out _ (HC.out.drewN nq))
                  clear F HC
                  go_wp2_with fail
                  exact ⟨F'.out, hms2.out⟩
                · have t0 : decide ((p : Int) < (m1 : Int)) = true := decide_eq_true (by omega)
                  have t1 : decide (p < m1) = true := decide_eq_true hp2
                  have i3 : (p : Int) < (m1 : Int) := by omega
                  have hp3 : p < l1.length := by omega
                  have ed1 : l1.drop p = l1.getD p 0 :: l1.drop (p + 1) := by
                    rw [List.drop_eq_getElem_cons hp3, List.getD_eq_getElem?_getD, List.getElem?_eq_getElem hp3]; rfl
                  obtain ⟨a1, hA1, hcx⟩ := H7.out.1.at_ p hp3
                  subst hA1
                  have y1 := hC.cell hcx (fun x => x)
                  rw [ed1, ed] at hs
                  by_cases hxy : l1.getD p 0 = l2.getD q 0
                  · have g0 : (l1.getD p 0 == l2.getD q 0) = true := beq_iff_eq.mpr hxy
                    have F := Lib.hid (show ∀ w9, Chg NoB w7 w9 → Gw l1 l2 w7 (.int .i64 ((p : Int) + 1)) (.int .i64 ((q : Int) + 1)) w9 from fun w9 h9 => ⟨p + 1, q + 1, hp3, hq3, rfl, rfl, by
                      rw [hxy] at hs
                      exact List.cons_sublist_cons.mp hs, h9⟩)
                    have HC := Lib.hid hC
                    clear hC hs hp hq hq2 hp2 hm1 hm2 ed ed1 hcy hcx hq3 hp3 hxy FN H7
                    generalize l1.getD p 0 = z at *
                    generalize l2.getD q 0 = y at *
                    go_wp2_with fail
                    go_quiet (fail)
                    have F' := Lib.hid (F.out _ (HC.out.drewN nq))
                    clear F HC
                    go_wp2_with fail
                    exact ⟨F'.out, hms2.out⟩
                  · have g0 : (l1.getD p 0 == l2.getD q 0) = false := beq_eq_false_iff_ne.mpr hxy
                    have F := Lib.hid (show ∀ w9, Chg NoB w7 w9 → Gw l1 l2 w7 (.int .i64 (p : Int)) (.int .i64 ((q : Int) + 1)) w9 from fun w9 h9 => ⟨p, q + 1, by omega, hq3, rfl, rfl, by
                      rw [ed1]
                      exact sub_skip hs hxy, h9⟩)
                    have HC := Lib.hid hC
                    clear hC hs hp hq hq2 hp2 hm1 hm2 ed ed1 hcy hcx hq3 hp3 hxy FN H7
                    generalize l1.getD p 0 = z at *
                    generalize l2.getD q 0 = y at *
                    go_wp2_with fail
                    go_quiet (fail)
                    have F' := Lib.hid (F.out _ (HC.out.drewN nq))
                    clear F HC
                    go_wp2_with fail
                    exact ⟨F'.out, hms2.out⟩
theorem wf8g {n : Int} (h : (Lit.int .u8 n).wf = true) : 0 ≤ n ∧ n < 256 := by
  simp only [Lit.wf, Bool.and_eq_true, decide_eq_true_eq] at h
  have e1 : IntKind.u8.min = 0 := rfl
  have e2 : IntKind.u8.max = 255 := rfl
  omega
theorem registryGrows_row (a0 : Option Addr) (len0 cap0 : Nat) (z0 : Nat → GAct) (a1 : Option Addr) (len1 cap1 : Nat) (z1 : List Int) (W : World) (w0 : IsG W a0 len0 cap0 z0) (w1 : IsRow .u8 W a1 len1 cap1 z1) (y1 : len1 * 1 ≤ 140737488351232) :
    Calls Try.prog 5 #[.slice a0 len0 cap0, .slice a1 len1 cap1] W fun e w' => e = .returned (.bool true) ∧ Below W.heap.size W w' := by
  obtain ⟨h1, h2, _, h3⟩ := rd_of_row w1 (by omega)
  have h := registryGrows a0 len0 cap0 z0 a1 cap1 (z1.take len1) w0 h1 (fun z hz => wf8g (h3 z hz))
  rw [h2] at h
  exact h.mono fun _ _ q => q.row
end Go.Proofs.YtolojkfpokmdkaaRR.Reg
