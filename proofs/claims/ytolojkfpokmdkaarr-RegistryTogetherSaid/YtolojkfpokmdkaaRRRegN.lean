/- Chapter 7: RegistryTogether. -/
import Derived.Test.YtolojkfpokmdkaaRRRegM
namespace Go.Proofs.YtolojkfpokmdkaaRR.Reg
open Go.RowKit Go.Proofs.YtolojkfpokmdkaaRR.Hp Go.Proofs.YtolojkfpokmdkaaRR.By Go.Proofs.YtolojkfpokmdkaaRR.Disk Go.Proofs.YtolojkfpokmdkaaRR.Word Go.Proofs.YtolojkfpokmdkaaRR.WordP Go.Proofs.YtolojkfpokmdkaaRR.Log Go.Proofs.YtolojkfpokmdkaaRR.Slot Go.Proofs.YtolojkfpokmdkaaRR.Jour
set_option linter.unusedVariables false
set_option linter.unusedSimpArgs false
def LtQ (w0 : World) (d : Nat) (s : DSt) (y : Rec) (E : Int) (w' : World) : Prop := E = appE s (0 : Nat) (secL 0 (0 : Nat) y.bytes) ∧ ∃ ρ', DL w0 w' d ρ' (appS s (0 : Nat) (secL 0 (0 : Nat) y.bytes))
theorem adds_lt0 {w0 w : World} {r j bm d : Nat} {ρ : Nat → Nat} {s : DSt} {x : RSt} {K : Nat} (h : RegAt w0 w r j bm d ρ s 0 0 x K) (hn : s.n = 192) (hK : K ≤ 900000) : Adds w r j bm ρ (LtQ w0 d s) := by
  intro y hy w1 A c hC hr ho hc
  refine (add_lt (h.keep hC) hn (by decide) (by decide) (by decide) y hy hK A c hr ho hc).mono ?_
  rintro e w' ⟨rfl, ⟨ρ', hR, _⟩, hC'⟩
  exact ⟨_, rfl, ⟨rfl, ρ', hR.jl.1⟩, hC'⟩
/-- what a crash behind it leaves -/
def CrOk (s : DSt) (zs : List Int) (E : Int) : Prop := ∀ keep : Int, ∃ f ws x, SReg (s.crash keep 64) f 0 [] ws x ∧ TogOk zs E x.badL
def TogAdd (w0 : World) (d : Nat) (zs : List Int) (e : Ending) (w' : World) : Prop := ∃ E ρ s, e = .returned (.int .i64 E) ∧ DL w0 w' d ρ s ∧ CrOk s zs E
theorem fuse_firm (a : Int) : Slot.Firm ((DSt.new 192).fusing a) (fun _ => List.replicate 64 0) := ⟨rfl, fun _ => rfl, fun _ => rfl⟩
theorem tog_add {w0 w : World} {r j bm d : Nat} {ρ : Nat → Nat} {a : Int} {K : Nat} (h : RegAt w0 w r j bm d ρ ((DSt.new 192).fusing a) 0 0 RSt.zero K) (hK : K ≤ 900000) (A : Option Addr) (c : Nat) (zs : List Int) (hr : Rd w .i64 A zs) (hnil : A = none → c = 0 ∧ zs = []) (hl : zs.length ≤ 20) (hz : zs.any (fun z => !isFr z) = false) :
    Calls Try.prog 9 #[.pointer (some ⟨r, 0, none⟩), .slice A zs.length c] w (TogAdd w0 d zs) := by
  refine (addbad_any h (adds_lt0 h rfl hK) A c zs hr hnil).mono ?_
  rintro e w' ⟨E, rfl, hc⟩
  rw [newL_zero] at hc
  rcases hc with ⟨h1, _⟩ | ⟨_, h1, rfl, hC⟩ | ⟨_, h1, rfl, ρ', hD⟩
  · rcases h1 with h1 | h1
    · omega
    · rw [hz] at h1; cases h1
  · refine ⟨0, ρ, _, rfl, h.jl.1.keep hC, fun keep => ⟨_, [], RSt.zero, ⟨Slot.crash_firm (fuse_firm a) keep 64, dreg_new.two, dreg_new.log, Holds.new⟩, tog_zero (.inr (List.map_eq_nil_iff.mp h1))⟩⟩
  · have hok : (Rec.bads (zs.map Int.toNat)).ok := ⟨⟨List.length_pos_iff.mpr h1, by rw [List.length_map]; exact hl⟩, fun f hf => by
      obtain ⟨z, hq, rfl⟩ := List.mem_map.mp hf
      have := fr_mem hz hq
      omega⟩
    refine ⟨_, ρ', _, rfl, hD, fun keep => ?_⟩
    obtain ⟨f', ws', x', hS, hx⟩ := cr_add (fuse_firm a) dreg_new.firm.2 dreg_new.two dreg_new.log Holds.new (.bads (zs.map Int.toNat)) hok (by decide) keep
    refine ⟨f', ws', x', hS, ?_⟩
    rcases hx with rfl | ⟨rfl, hE⟩
    · exact tog_app hz _
    · exact tog_zero (.inl hE)
theorem sreg_open {w0 w : World} {d : Nat} {ρ : Nat → Nat} {s : DSt} {f : Nat → List Int} {gen : Int} {bs : List Int} {ws : List (List Int)} {x : RSt} (h : DL w0 w d ρ s) (hS : SReg s f gen bs ws x) (hg : gen < 4294967296) : Calls Try.prog 7 #[.pointer (some ⟨d, 0, none⟩)] w (OpPost w0 w d ρ s gen ws.length x) := open_any h hS.sy hS.two hg hS.log hS.says
theorem regat_fuse {w0 w w' : World} {r j bm d : Nat} {ρ : Nat → Nat} {s s' : DSt} {gen : Int} {n : Nat} {x : RSt} {K : Nat} (h : RegAt w0 w r j bm d ρ s gen n x K) (hD : DL w0 w' d ρ s') (hC : Chg (Own ρ) w w') : RegAt w0 w' r j bm d ρ s' gen n x K :=
  ⟨h.jl.mk' hC hD (fun _ _ e => e), h.rm.keepO hC h.ne.1.1 h.ne.1.2, h.ne, h.nw⟩
def TgRel (zs : List Int) (w : World) (i : Value) (wr : World) : Prop := ∃ k : Nat, k ≤ zs.length ∧ i = .int .i64 (k : Int) ∧ (zs.take k).any (fun x => !isFr x) = false ∧ Chg NoB w wr
def Tg2Rel (n : Nat) (w : World) (i : Value) (wr : World) : Prop := ∃ k : Nat, k ≤ n ∧ i = .int .i64 (k : Int) ∧ Chg NoB w wr
def Tg3Rel (l : List Int) (z : Int) (w : World) (b k : Value) (wr : World) : Prop := ∃ q : Nat, q ≤ l.length ∧ k = .int .i64 (q : Int) ∧ b = .bool (decide (z ∈ l.take q)) ∧ Chg NoB w wr
set_option maxRecDepth 100000 in
set_option maxHeartbeats 4000000 in
theorem registryTogether {w : World} (A : Option Addr) (c : Nat) (zs : List Int) (fuse : Nat) (keep : Int) (hr : Rd w .i64 A zs) (hnil : A = none → c = 0 ∧ zs = []) (hf : fuse < 256) (k0 : 0 ≤ keep) (k1 : keep < 18446744073709551616) :
    Calls Try.prog 6 #[.slice A zs.length c, .int .u8 (fuse : Int), .int .u64 keep] w (True1 w) := by
  obtain ⟨n, hn⟩ : ∃ n, n = zs.length := ⟨_, rfl⟩
  have HN := Lib.hid hn
  have H := Lib.hid (And.intro hr hnil)
  have hl49 := hr.1
  rw [← hn] at hl49 ⊢
  by_cases h20 : 20 < n
  · have d1 : decide (20 < (n : Int)) = true := decide_eq_true (by omega)
    have d2 : decide (20 < n) = true := decide_eq_true h20
    clear hr hnil hn
    go_enter Try.func6, Try.ntmps6
    go_wp2_with fail
    refine (answers_any _).mono ?_
    rintro e w1 ⟨rfl, hC1⟩
    go_wp2_with fail
    go_ret
    exact ⟨rfl, hC1⟩
  · have d1 : decide (20 < (n : Int)) = false := decide_eq_false (by omega)
    have d2 : decide (20 < n) = false := decide_eq_false h20
    have hB : TgRel zs w (.int .i64 0) w := ⟨0, Nat.zero_le _, rfl, by simp, Chg.refl _ _⟩
    clear hr hnil hn
    go_enter Try.func6, Try.ntmps6
    go_wp2_with fail
    clear d1 d2
    go_loopw [7] (fun i wr => TgRel zs w i wr) (fun i wr => n - (intOf i).toNat)
    case atStart => exact hB
    case round =>
      clear hB
      obtain ⟨k, hk, rfl, hz, hC⟩ := hrel
      rw [← HN.out] at hk
      rcases Nat.eq_or_lt_of_le hk with hk2 | hk2
      · have e0 : decide ((k : Int) < (n : Int)) = false := decide_eq_false (by omega)
        have e1 : decide (k < n) = false := decide_eq_false (by omega)
        rw [hk2, HN.out, List.take_length] at hz
        have HZ := Lib.hid (And.intro hz (And.intro hC h20))
        clear hz hC hk hk2
        go_wp2_with fail
        refine (l_new 192 (by omega) (by omega) wr).mono ?_
        rintro e w2 ⟨d, ρ, rfl, h2⟩
        have hop := open_any h2 (firm_says dreg_new.firm.1 dreg_new.calm) dreg_new.two (by decide) dreg_new.log dreg_new.says
        clear h2
        go_wp2_with fail
        refine hop.mono ?_
        rintro e w3 ⟨r, j, bm, rfl, h3, _⟩
        have H3 := Lib.hid h3
        have hfu := l_fuse ((fuse : Int) % 4) (by omega) h3.jl.1
        have bf : 0 ≤ (fuse : Int) ∧ (fuse : Int) < 256 := ⟨by omega, by omega⟩
        clear hop h3
        go_wp2_with fail
        refine hfu.mono ?_
        rintro e w4 ⟨rfl, hD4, hC4⟩
        have h4 := regat_fuse H3.out hD4 hC4
        have hCw4 := HZ.out.2.1.trans hD4.ch (fun _ _ x => x)
        have hab := tog_add h4 (by decide) A c zs (H.out.1.chg hCw4 (fun _ _ _ x => x)) H.out.2 (by rw [← HN.out]; omega) HZ.out.1
        rw [← HN.out] at hab
        clear hfu H3 hD4 hC4 h4 hCw4 bf
        go_wp2_with fail
        refine hab.mono ?_
        rintro e w5 ⟨E, ρ5, s5, rfl, hD5, hCr⟩
        obtain ⟨f6, ws6, x6, hS6, hT6⟩ := hCr keep
        have hcr := l_crash keep 64 k0 k1 hD5
        clear hab hCr hD5
        go_wp2_with fail
        refine hcr.mono ?_
        rintro e w6 ⟨rfl, _, ρ6, hD6, _⟩
        have hop := sreg_open hD6 hS6 (by decide)
        clear hcr hD6 hS6
        go_wp2_with fail
        refine hop.mono ?_
        rintro e w7 ⟨q, j7, bm7, rfl, h7, _⟩
        have hbd := bad_any h7.rm
        have H7 := Lib.hid h7.jl.1.ch
        clear hop h7
        go_wp2_with fail
        refine hbd.mono ?_
        rintro e w8 ⟨v, rfl, hown, hC8⟩
        have hl1024 := badL_len x6
        obtain ⟨A8, c8, rfl, _, hc8, hr8, _⟩ := own_rd hown (by omega)
        have hCw8 := (HZ.out.2.1.trans H7.out (fun _ _ x => x)).trans hC8 (fun _ _ x => x)
        generalize x6.badL = l at *
        obtain ⟨m, hm⟩ : ∃ m, m = l.length := ⟨_, rfl⟩
        rw [← hm] at hl1024 ⊢
        have H8 := Lib.hid (And.intro hr8 (And.intro hCw8 (And.intro hT6 (And.intro hm hc8))))
        clear hbd hown hC8 H7 hr8 hCw8 hT6 hm hc8
        have hB2 : Tg2Rel n w8 (.int .i64 0) w8 := ⟨0, Nat.zero_le _, rfl, Chg.refl _ _⟩
        go_wp2_with fail
        go_loopw [15] (fun i wr => Tg2Rel n w8 i wr) (fun i wr => n - (intOf i).toNat)
        case atStart => exact hB2
        case round =>
          clear hB2
          obtain ⟨k, hk, rfl, hC⟩ := hrel
          rcases Nat.eq_or_lt_of_le hk with hk2 | hk2
          · have e0 : decide ((k : Int) < (n : Int)) = false := decide_eq_false (by omega)
            have e1 : decide (k < n) = false := decide_eq_false (by omega)
            clear hk2
            have fin := Lib.hid (show ∀ w9, Chg NoB wr w9 → Chg NoB w w9 from fun w9 h9 => H8.out.2.1.trans (hC.trans h9 (fun _ _ x => x)) (fun _ _ x => x))
            obtain ⟨_, t2, t3⟩ := H8.out.2.2.1
            have t4 := H8.out.2.2.2.1
            rw [← t4, ← HN.out] at t2
            have l1 : decide ((m : Int) ≤ (n : Int)) = true := decide_eq_true (by omega)
            have l2 : decide (m ≤ n) = true := decide_eq_true t2
            by_cases hE : E = 0
            · have q1 : (E != 0) = false := bne_eq_false_iff_eq.mpr hE
              by_cases hn0 : n = 0
              · have q2 : ((n : Int) == 0) = true := by rw [beq_iff_eq]; omega
                have q3 : (n == 0) = true := by rw [beq_iff_eq]; exact hn0
                clear hC hk t2 t3 t4 hE hn0 H8 H HZ
                go_wp2_with fail
                refine (answers_any _).mono ?_
                rintro e w9 ⟨rfl, hC9⟩
                go_wp2_with fail
                go_ret
                exact ⟨rfl, fin.out w9 hC9⟩
              · have hm0 : 0 < m := by
                  rcases t3 with t3 | t3 | t3
                  · exact absurd hE t3
                  · exact absurd (by rw [HN.out, t3]; rfl) hn0
                  · rw [t4]; exact List.length_pos_iff.mpr t3
                have q2 : ((n : Int) == 0) = false := by rw [beq_eq_false_iff_ne]; omega
                have q3 : (n == 0) = false := by rw [beq_eq_false_iff_ne]; exact hn0
                have q4 : decide (0 < (m : Int)) = true := decide_eq_true (by omega)
                have q5 : decide (0 < m) = true := decide_eq_true hm0
                clear hC hk t2 t3 t4 hE hn0 H8 H HZ
                go_wp2_with fail
                refine (answers_any _).mono ?_
                rintro e w9 ⟨rfl, hC9⟩
                go_wp2_with fail
                go_ret
                exact ⟨rfl, fin.out w9 hC9⟩
            · have q1 : (E != 0) = true := bne_iff_ne.mpr hE
              clear hC hk t2 t3 t4 hE H8 H HZ
              go_wp2_with fail
              refine (answers_any _).mono ?_
              rintro e w9 ⟨rfl, hC9⟩
              go_wp2_with fail
              go_ret
              exact ⟨rfl, fin.out w9 hC9⟩
          · have e0 : decide ((k : Int) < (n : Int)) = true := decide_eq_true (by omega)
            have e1 : decide (k < n) = true := decide_eq_true hk2
            by_cases hm0 : m = 0
            · have g0 : decide (0 < (m : Int)) = false := decide_eq_false (by omega)
              have g1 : decide (0 < m) = false := decide_eq_false (by omega)
              clear hk2
              have fin := Lib.hid (show ∀ w9, Chg NoB wr w9 → Chg NoB w w9 from fun w9 h9 => H8.out.2.1.trans (hC.trans h9 (fun _ _ x => x)) (fun _ _ x => x))
              obtain ⟨_, t2, t3⟩ := H8.out.2.2.1
              have t4 := H8.out.2.2.2.1
              rw [← t4, ← HN.out] at t2
              have l1 : decide ((m : Int) ≤ (n : Int)) = true := decide_eq_true (by omega)
              have l2 : decide (m ≤ n) = true := decide_eq_true t2
              by_cases hE : E = 0
              · have q1 : (E != 0) = false := bne_eq_false_iff_eq.mpr hE
                by_cases hn0 : n = 0
                · have q2 : ((n : Int) == 0) = true := by rw [beq_iff_eq]; omega
                  have q3 : (n == 0) = true := by rw [beq_iff_eq]; exact hn0
                  clear hC hk t2 t3 t4 hE hn0 H8 H HZ
                  go_wp2_with fail
                  refine (answers_any _).mono ?_
                  rintro e w9 ⟨rfl, hC9⟩
                  go_wp2_with fail
                  go_ret
                  exact ⟨rfl, fin.out w9 hC9⟩
                · have hm1 : 0 < m := by
                    rcases t3 with t3 | t3 | t3
                    · exact absurd hE t3
                    · exact absurd (by rw [HN.out, t3]; rfl) hn0
                    · rw [t4]; exact List.length_pos_iff.mpr t3
                  exact absurd hm1 (by omega)
              · have q1 : (E != 0) = true := bne_iff_ne.mpr hE
                clear hC hk t2 t3 t4 hE H8 H HZ
                go_wp2_with fail
                refine (answers_any _).mono ?_
                rintro e w9 ⟨rfl, hC9⟩
                go_wp2_with fail
                go_ret
                exact ⟨rfl, fin.out w9 hC9⟩
            · have g0 : decide (0 < (m : Int)) = true := decide_eq_true (by omega)
              have g1 : decide (0 < m) = true := decide_eq_true (by omega)
              have i1 : (k : Int) < (n : Int) := by omega
              obtain ⟨ad, hAd, hcell⟩ := H.out.1.at_ k (by rw [← HN.out]; exact hk2)
              subst hAd
              have hzin : decide (zs.getD k 0 ∈ l) = true := decide_eq_true (H8.out.2.2.1.1 (fun e => hm0 (by rw [H8.out.2.2.2.1, e]; rfl)) _ (by
                rw [List.getD_eq_getElem?_getD, List.getElem?_eq_getElem (by rw [← HN.out]; exact hk2)]; exact List.getElem_mem _))
              have hz8 := H8.out.2.1.cell hcell (fun x => x)
              have hB3 : Tg3Rel l (zs.getD k 0) w8 (.bool false) (.int .i64 0) wr := ⟨0, Nat.zero_le _, rfl, by simp, hC⟩
              have hms := Lib.hid (show n - ((k : Int) + 1).toNat < n - (k : Int).toNat by omega)
              clear hC hcell hm0
              generalize zs.getD k 0 = z at *
              go_wp2_with fail
              go_loopw [16, 17] (fun b q wr => Tg3Rel l z w8 b q wr) (fun b q wr => m - (intOf q).toNat)
              case atStart => exact hB3
              case round =>
                clear hB3
                obtain ⟨q, hq, rfl, rfl, hC⟩ := hrel
                rw [← H8.out.2.2.2.1] at hq
                rcases Nat.eq_or_lt_of_le hq with hq2 | hq2
                · have s0 : decide ((q : Int) < (m : Int)) = false := decide_eq_false (by omega)
                  have s1 : decide (q < m) = false := decide_eq_false (by omega)
                  rw [show decide (z ∈ l.take q) = true by rw [hq2, H8.out.2.2.2.1, List.take_length]; exact hzin]
                  have F := Lib.hid (show Tg2Rel n w8 (.int .i64 ((k : Int) + 1)) wr from ⟨k + 1, hk2, rfl, hC⟩)
                  clear hC hq hq2 hzin hz8 hk hk2 H8 H HZ
                  go_wp2_with fail
                  exact ⟨F.out, hms.out⟩
                · have s0 : decide ((q : Int) < (m : Int)) = true := decide_eq_true (by omega)
                  have s1 : decide (q < m) = true := decide_eq_true hq2
                  have i2 : (q : Int) < (m : Int) := by omega
                  obtain ⟨a8, hA8, hcy⟩ := H8.out.1.at_ q (by rw [← H8.out.2.2.2.1]; exact hq2)
                  subst hA8
                  have y0 := hC.cell hcy (fun x => x)
                  have y1 := hC.cell hz8 (fun x => x)
                  have htk := take_succ_getD l q (by rw [← H8.out.2.2.2.1]; exact hq2)
                  have hms2 := Lib.hid (show m - ((q : Int) + 1).toNat < m - (q : Int).toNat by omega)
                  by_cases hb : z ∈ l.take q
                  · rw [decide_eq_true hb]
                    have F := Lib.hid (show ∀ w9, Chg NoB w8 w9 → Tg3Rel l z w8 (.bool true) (.int .i64 ((q : Int) + 1)) w9 from fun w9 h9 => ⟨q + 1, by rw [← H8.out.2.2.2.1]; exact hq2, rfl, by rw [htk, decide_eq_true (List.mem_append_left _ hb)], h9⟩)
                    have HC := Lib.hid hC
                    clear hC hcy hz8 htk hb hzin hq hq2 hk hk2 H8 H HZ
                    generalize l.getD q 0 = y at *
                    go_wp2_with fail
                    go_quiet (fail)
                    have F' := Lib.hid (F.out _ (HC.out.drewN nq))
                    clear F HC
                    go_wp2_with fail
                    exact ⟨F'.out, hms2.out⟩
                  · rw [decide_eq_false hb]
                    have F := Lib.hid (show ∀ w9, Chg NoB w8 w9 → Tg3Rel l z w8 (.bool (l.getD q 0 == z)) (.int .i64 ((q : Int) + 1)) w9 from fun w9 h9 => ⟨q + 1, by rw [← H8.out.2.2.2.1]; exact hq2, rfl, by
                      rw [htk]
                      congr 1
                      rw [Bool.eq_iff_iff, beq_iff_eq, decide_eq_true_eq, List.mem_append, List.mem_singleton]
                      exact ⟨fun e => .inr e.symm, fun e => e.elim (fun e => absurd e hb) (fun e => e.symm)⟩, h9⟩)
                    have HC := Lib.hid hC
                    clear hC hcy hz8 htk hb hzin hq hq2 hk hk2 H8 H HZ
                    generalize l.getD q 0 = y at *
                    go_wp2_with fail
                    go_quiet (fail)
                    have F' := Lib.hid (F.out _ (HC.out.drewN nq))
                    clear F HC
                    go_wp2_with fail
                    exact ⟨F'.out, hms2.out⟩
      · obtain ⟨ad, rfl, hcell⟩ := H.out.1.at_ k (by rw [← HN.out]; exact hk2)
        have x0 := hC.cell hcell (fun x => x)
        have e0 : decide ((k : Int) < (n : Int)) = true := decide_eq_true (by omega)
        have e1 : decide (k < n) = true := decide_eq_true hk2
        have i1 : (k : Int) < (n : Int) := by omega
        have hs := any_snoc zs k (by rw [← HN.out]; exact hk2) (fun x => !isFr x)
        rw [hz, Bool.false_or] at hs
        have HC := Lib.hid hC
        have hms := Lib.hid (show n - ((k : Int) + 1).toNat < n - (k : Int).toNat by omega)
        by_cases z0 : zs.getD k 0 < 0
        · have g0 : decide (zs.getD k 0 < 0) = true := decide_eq_true z0
          clear hz hC hk hcell hs z0 H
          generalize zs.getD k 0 = z at *
          go_wp2_with fail
          refine (answers_any _).mono ?_
          rintro e w1 ⟨rfl, hC1⟩
          go_wp2_with fail
          go_ret
          exact ⟨rfl, HC.out.trans hC1 (fun _ _ x => x)⟩
        · have g0 : decide (zs.getD k 0 < 0) = false := decide_eq_false z0
          by_cases z1 : 1023 < zs.getD k 0
          · have g1 : decide (1023 < zs.getD k 0) = true := decide_eq_true z1
            clear hz hC hk hcell hs z0 z1 H
            generalize zs.getD k 0 = z at *
            go_wp2_with fail
            refine (answers_any _).mono ?_
            rintro e w1 ⟨rfl, hC1⟩
            go_wp2_with fail
            go_ret
            exact ⟨rfl, HC.out.trans hC1 (fun _ _ x => x)⟩
          · have g1 : decide (1023 < zs.getD k 0) = false := decide_eq_false z1
            have F := Lib.hid (show TgRel zs w (.int .i64 ((k : Int) + 1)) wr from ⟨k + 1, by rw [← HN.out]; exact hk2, rfl, by
              rw [hs]
              unfold isFr
              rw [decide_eq_true (show 0 ≤ zs.getD k 0 ∧ zs.getD k 0 < 1024 by omega)]; rfl, hC⟩)
            clear hz hC hk hcell hs z0 z1 H
            generalize zs.getD k 0 = z at *
            go_wp2_with fail
            exact ⟨F.out, hms.out⟩
theorem wf8 {n : Int} (h : (Lit.int .u8 n).wf = true) : 0 ≤ n ∧ n < 256 := by
  simp only [Lit.wf, Bool.and_eq_true, decide_eq_true_eq] at h
  have e1 : IntKind.u8.min = 0 := rfl
  have e2 : IntKind.u8.max = 255 := rfl
  omega
theorem wf64 {n : Int} (h : (Lit.int .u64 n).wf = true) : 0 ≤ n ∧ n < 18446744073709551616 := by
  simp only [Lit.wf, Bool.and_eq_true, decide_eq_true_eq] at h
  have e1 : IntKind.u64.min = 0 := rfl
  have e2 : IntKind.u64.max = 18446744073709551615 := rfl
  omega
theorem registryTogether_row (a0 : Option Addr) (len0 cap0 : Nat) (z0 : List Int) (a1 a2 : Int) (W : World) (w0 : IsRow .i64 W a0 len0 cap0 z0) (y0 : len0 * 8 ≤ 140737488351232) (w1 : (Lit.int .u8 a1).wf = true) (w2 : (Lit.int .u64 a2).wf = true) :
    Calls Try.prog 6 #[.slice a0 len0 cap0, .int .u8 a1, .int .u64 a2] W fun e w' => e = .returned (.bool true) ∧ Below W.heap.size W w' := by
  obtain ⟨h1, h2, _, _⟩ := rd_of_row w0 (by omega)
  obtain ⟨b0, b1⟩ := wf8 w1
  obtain ⟨c0, c1⟩ := wf64 w2
  obtain ⟨fu, rfl⟩ : ∃ fu : Nat, a1 = (fu : Int) := ⟨a1.toNat, by omega⟩
  have hnil : a0 = none → cap0 = 0 ∧ z0.take len0 = [] := fun e => by
    rcases w0 with ⟨_, rfl, rfl, rfl⟩ | ⟨x, h, _⟩
    · exact ⟨rfl, rfl⟩
    · rw [e] at h; cases h
  have h := registryTogether a0 cap0 (z0.take len0) fu a2 h1 hnil (by omega) c0 c1
  rw [h2] at h
  exact h.mono fun _ _ q => q.row
end Go.Proofs.YtolojkfpokmdkaaRR.Reg
