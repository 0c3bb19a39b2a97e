/- A disk: Crash, walked. -/
import Derived.Test.YtmonkoclbcahiaaCrash
namespace Go.Proofs.Ytmonkoclbcahiaa.Disk
open Go.RowKit Go.Proofs.Ytmonkoclbcahiaa.Hp Go.Proofs.Ytmonkoclbcahiaa.By
set_option linter.unusedVariables false
set_option linter.unusedSimpArgs false
theorem bits_and_u64 (a b : Nat) (ha : a < 18446744073709551616) (hb : b < 18446744073709551616) : Go.bits .and .u64 a b = ((a &&& b : Nat) : Int) := by
  have ha' : a % 2 ^ 64 = a := Nat.mod_eq_of_lt (by simpa using ha)
  have hb' : b % 2 ^ 64 = b := Nat.mod_eq_of_lt (by simpa using hb)
  show IntKind.u64.wrap ((BitVec.ofInt 64 a &&& BitVec.ofInt 64 b).toNat : Int) = _
  simp only [BitVec.ofInt_natCast, BitVec.toNat_and, BitVec.toNat_ofNat, ha', hb']
  have : a &&& b ≤ b := Nat.and_le_right
  exact IntWalk.u64_in _ ⟨Int.natCast_nonneg _, by omega⟩
theorem bit_is (keep : Int) (j : Nat) (k0 : 0 ≤ keep) (k1 : keep < 18446744073709551616) : bits BinOp.and IntKind.u64 (keep / 2 ^ j) 1 = keep / 2 ^ j % 2 := by
  have h0 : 0 ≤ keep / 2 ^ j := Int.ediv_nonneg k0 (Int.pow_nonneg (by decide))
  have h1 : keep / 2 ^ j ≤ keep := Int.ediv_le_self _ k0
  generalize keep / 2 ^ j = y at *
  obtain ⟨a, rfl⟩ := Int.eq_ofNat_of_zero_le h0
  have := bits_and_u64 a 1 (by omega) (by decide)
  rw [show ((1 : Nat) : Int) = 1 from rfl] at this
  rw [this, Nat.and_one_is_mod]
  omega
theorem CrR.drew {w1 wr : World} {s : DSt} {sv : Nat} {SV LV : Nat → Value} {p : (Nat → Bool) × Option Nat} {last : Value} (h : CrR w1 s sv SV LV p last wr) : CrR w1 s sv SV LV p last wr.drew := by
  obtain ⟨a, C, h1, h2, h3⟩ := h
  exact ⟨a, C, h1, h2, h3.drew⟩
/-- the first bytes of one sector over those of another -/
theorem copy_cut {w : World} {v1 v2 : Value} {g1 g2 : Nat} {l1 l2 : List Int} (h1 : Row w v1 g1 l1) (h2 : Row w v2 g2 l2) (t : Nat) (ht : t ≤ 64) (c1 c2 : Nat) :
    ∃ w', (∀ ty, (Builtin.copy_ #[31, 31] ty #[.slice (some ⟨g1, 0, none⟩) t c1, .slice (some ⟨g2, 0, none⟩) 64 c2]).run Try.prog w = .ok (.int .i64 t) w') ∧ Row w' v1 g1 (l2.take t ++ l1.drop t) ∧ Chg (· = g1) w w' := by
  obtain ⟨a1, b1, k1, C1, e1, f1, hb1, r1, q1⟩ := h1
  obtain ⟨a2, b2, k2, C2, e2, f2, hb2, r2, q2⟩ := h2
  have hlen : ((l2.take t).map (Value.int .u8)).length = t := by simp; omega
  have hrun := fun ty => run_copy_row (P := Try.prog) w 31 31 ty 5 g1 0 t c1 ⟨g2, 0, none⟩ 64 c2 C1 5 ((l2.take t).map (Value.int .u8)) Try.underlying31 sz8 hb1 (by rw [hlen]; exact (Nat.min_eq_right ht).symm)
    (fun j v hj => by
      rw [add0, bcell hb2]
      rw [List.getElem?_map, List.getElem?_take] at hj
      by_cases c : j < t
      · rw [if_pos c, List.getElem?_eq_getElem (by omega)] at hj
        rw [q2 j (by omega), List.getD_eq_getElem?_getD, List.getElem?_eq_getElem (by omega)]
        exact hj
      · rw [if_neg c] at hj; cases hj)
    (by rw [hlen]; omega) (fun v hv => by
      obtain ⟨x, _, rfl⟩ := List.mem_map.mp hv
      rfl)
  refine ⟨_, fun ty => (by rw [hrun ty, hlen]; rfl), ⟨?_, ?_, k1, _, e1, f1, setRow_heap w g1 C1 _ 5 _ hb1, ?_, ?_⟩, ⟨rfl, rfl, rfl, by simp [World.setRow], fun k _ hk => setRow_other w g1 k _ hk⟩⟩
  · rw [List.length_append, List.length_take, List.length_drop]; omega
  · intro x hx
    rcases List.mem_append.mp hx with h | h
    · exact b2 x (List.mem_of_mem_take h)
    · exact b1 x (List.mem_of_mem_drop h)
  · simp; omega
  · intro j hj
    simp only [List.take_zero, List.nil_append, Nat.zero_add, List.getElem?_toArray]
    rw [List.getD_eq_getElem?_getD]
    by_cases c : j < t
    · rw [List.getElem?_append_left (by rw [hlen]; exact c), List.getElem?_append_left (by rw [List.length_take]; omega), List.getElem?_map, List.getElem?_take, if_pos c, List.getElem?_eq_getElem (by omega)]
      rfl
    · rw [List.getElem?_append_right (by rw [hlen]; omega), List.getElem?_append_right (by rw [List.length_take]; omega), hlen, List.length_take, List.getElem?_drop, List.getElem?_drop, Array.getElem?_toList]
      rw [show t + (j - t) = j by omega, show t + (j - min t l2.length) = j by omega, q1 j hj, List.getD_eq_getElem?_getD]
/-- before the map is cleared -/
def Rdy (w1 : World) (d : Nat) (ρ : Nat → Nat) (s : DSt) (sv mb cap : Nat) (SV : Nat → Value) (SB : Nat → Nat) (LV : Nat → Value) (LB : Nat → Nat) (keep torn : Int) (w2 : World) : Prop :=
  Chg (Own ρ) w1 w2 ∧ DB w2 d (.slice (some ⟨sv, 0, none⟩) s.n cap) (.map (some mb)) s.num ∧ (∃ C, Blk w2 sv C 31 ∧ ∀ i, i < s.n → C[i]? = some (if (crashAt keep s.looseL s.looseL.length).1 i = true then LV i else SV i)) ∧
  MapAt w2 mb (looseM s LV) ∧ ∀ i, i < s.n → Row w2 (if (crashAt keep s.looseL s.looseL.length).1 i = true then LV i else SV i) (if (crashAt keep s.looseL s.looseL.length).1 i = true then LB i else SB i) ((s.crash keep torn).sure i)
theorem Rdy.fin {w w1 w2 w3 : World} {d : Nat} {ρ : Nat → Nat} {s : DSt} {sv mb cap : Nat} {SV : Nat → Value} {SB : Nat → Nat} {LV : Nat → Value} {LB : Nat → Nat} {keep torn : Int} (h : DP w1 d ρ s sv mb cap SV SB LV LB) (h0 : Chg NoB w w1) (hr : Rdy w1 d ρ s sv mb cap SV SB LV LB keep torn w2) (hm : MapAt w3 mb (fun _ => none)) (hc : Chg (· = mb) w2 w3) :
    (∃ a b c e, w3.cell? ⟨d, 2, none⟩ = some a ∧ w3.cell? ⟨d, 3, none⟩ = some b ∧ w3.cell? ⟨d, 4, none⟩ = some c ∧ w3.cell? ⟨d, 5, none⟩ = some e) ∧ (∀ i, w3.frozen? ⟨d, i, none⟩ = false) ∧
    CrashPost w d ρ s keep torn (.returned (.tuple #[])) ((((w3.setCell ⟨d, 2, none⟩ (.int .i64 0)).setCell ⟨d, 3, none⟩ (.int .i64 0)).setCell ⟨d, 4, none⟩ (.int .i64 (-1))).setCell ⟨d, 5, none⟩ (.bool false)) := by
  obtain ⟨hc2, hb, ⟨C, hC, hS⟩, hmp, hR⟩ := hr
  have ne : ∀ i m, ρ i = m → m ≠ 3 → ¬ i = mb := fun i m hm hne x => by rw [x, h.r3] at hm; omega
  have nd : ∀ i m, ρ i = m → m ≠ 1 → ¬ i = d := fun i m hm hne x => by rw [x, h.r1] at hm; omega
  have b3 := hc.blk hb (ne d 1 h.r1 (by decide))
  have x1 : DB (w3.setCell ⟨d, 2, none⟩ (.int .i64 0)) d (.slice (some ⟨sv, 0, none⟩) s.n cap) (.map (some mb)) { s.num with first := 0 } := bset b3 2 _
  have x2 : DB ((w3.setCell ⟨d, 2, none⟩ (.int .i64 0)).setCell ⟨d, 3, none⟩ (.int .i64 0)) d (.slice (some ⟨sv, 0, none⟩) s.n cap) (.map (some mb)) { s.num with first := 0, fail := 0 } := bset x1 3 _
  have x3 : DB (((w3.setCell ⟨d, 2, none⟩ (.int .i64 0)).setCell ⟨d, 3, none⟩ (.int .i64 0)).setCell ⟨d, 4, none⟩ (.int .i64 (-1))) d (.slice (some ⟨sv, 0, none⟩) s.n cap) (.map (some mb)) { s.num with first := 0, fail := 0, fuse := -1 } := bset x2 4 _
  have x4 : DB ((((w3.setCell ⟨d, 2, none⟩ (.int .i64 0)).setCell ⟨d, 3, none⟩ (.int .i64 0)).setCell ⟨d, 4, none⟩ (.int .i64 (-1))).setCell ⟨d, 5, none⟩ (.bool false)) d (.slice (some ⟨sv, 0, none⟩) s.n cap) (.map (some mb)) ⟨0, 0, -1, false⟩ := bset x3 5 _
  have c4 : Chg (· = d) w3 ((((w3.setCell ⟨d, 2, none⟩ (.int .i64 0)).setCell ⟨d, 3, none⟩ (.int .i64 0)).setCell ⟨d, 4, none⟩ (.int .i64 (-1))).setCell ⟨d, 5, none⟩ (.bool false)) := chg2 (chg2 (chg2 (chg1 _ _ _ _) _ _) _ _) _ _
  obtain ⟨_, _, k2, k3, k4, k5⟩ := six b3
  have oM : Chg (Own ρ) w2 w3 := hc.mono (fun i _ x => by rw [show i = mb from x]; show ρ mb ≠ 0; rw [h.r3]; decide)
  have oD := c4.mono (S' := Own ρ) (fun i _ x => by rw [show i = d from x]; show ρ d ≠ 0; rw [h.r1]; decide)
  have ca := crashAt_ca keep s s.looseL.length (Nat.le_refl _)
  have hall := (hc2.trans oM (fun _ _ x => x)).trans oD (fun _ _ x => x)
  have hp := h.crash keep torn hall x4 C (c4.blk (hc.blk hC (ne sv 2 h.r2 (by decide))) (nd sv 2 h.r2 (by decide))) hS (hm.chg c4 (nd mb 3 h.r3 (by decide))) (fun i hi => by
    have hρ : ∃ m, ρ (if (crashAt keep s.looseL s.looseL.length).1 i = true then LB i else SB i) = m ∧ 4 ≤ m := by
      by_cases c : (crashAt keep s.looseL s.looseL.length).1 i = true
      · obtain ⟨a, _⟩ := ca.1 i c
        cases hl : s.loose i with
        | none => rw [hl] at a; cases a
        | some l => exact ⟨5 + 2 * i, by rw [if_pos c]; exact h.r5 i l hl, by omega⟩
      · exact ⟨4 + 2 * i, by rw [if_neg c]; exact h.r4 i hi, by omega⟩
    obtain ⟨m, e1, e2⟩ := hρ
    exact ((hR i hi).chg hc (ne _ m e1 (by omega))).chg c4 (nd _ m e1 (by omega)))
  exact ⟨⟨_, _, _, _, k2, k3, k4, k5⟩, bfroz b3, _, rfl, ⟨_, _, _, _, _, _, _, hp⟩, (h0.mono (S' := Own ρ) (fun _ _ x => x.elim)).trans hall (fun _ _ x => x), fun i => role_iff ρ i⟩
theorem rdy_none {w1 wr : World} {d : Nat} {ρ : Nat → Nat} {s : DSt} {sv mb cap : Nat} {SV : Nat → Value} {SB : Nat → Nat} {LV : Nat → Value} {LB : Nat → Nat} {keep torn : Int} {last : Value} (h : DP w1 d ρ s sv mb cap SV SB LV LB) (hr : CrR w1 s sv SV LV (crashAt keep s.looseL s.looseL.length) last wr)
    (hn : (crashAt keep s.looseL s.looseL.length).2 = none) : Rdy w1 d ρ s sv mb cap SV SB LV LB keep torn wr := by
  obtain ⟨_, C, hC, hS, hch⟩ := hr
  have ca := crashAt_ca keep s s.looseL.length (Nat.le_refl _)
  have al : ∀ k, (crashAt keep s.looseL s.looseL.length).1 k = false := fun k => by
    cases e : (crashAt keep s.looseL s.looseL.length).1 k with
    | false => rfl
    | true =>
      obtain ⟨_, q, e2, _⟩ := ca.1 k e
      rw [hn] at e2; cases e2
  have ns : ∀ i m, ρ i = m → m ≠ 2 → ¬ i = sv := fun i m hm hne x => by rw [x, h.r2] at hm; omega
  refine ⟨hch.mono (fun i _ x => by rw [show i = sv from x]; show ρ sv ≠ 0; rw [h.r2]; decide), hch.blk h.b (ns d 1 h.r1 (by decide)), ⟨C, hC, hS⟩, h.mp.chg hch (ns mb 3 h.r3 (by decide)), fun i hi => ?_⟩
  have e : (s.crash keep torn).sure i = s.sure i := by
    unfold DSt.crash
    simp only [al, hn]
    simp
  rw [e, al]
  exact (h.su i hi).chg hch (ns _ _ (h.r4 i hi) (by omega))
theorem rdy_some {w1 wr w2 : World} {d : Nat} {ρ : Nat → Nat} {s : DSt} {sv mb cap : Nat} {SV : Nat → Value} {SB : Nat → Nat} {LV : Nat → Value} {LB : Nat → Nat} {keep torn : Int} {last : Value} {q : Nat} {lq : List Int} (h : DP w1 d ρ s sv mb cap SV SB LV LB) (hr : CrR w1 s sv SV LV (crashAt keep s.looseL s.looseL.length) last wr)
    (hn : (crashAt keep s.looseL s.looseL.length).2 = some q) (hl : s.loose q = some lq) (hR : Row w2 (SV q) (SB q) (lq.take (cut64 torn) ++ (s.sure q).drop (cut64 torn))) (hc : Chg (· = SB q) wr w2) : Rdy w1 d ρ s sv mb cap SV SB LV LB keep torn w2 := by
  obtain ⟨_, C, hC, hS, hch⟩ := hr
  have ca := crashAt_ca keep s s.looseL.length (Nat.le_refl _)
  have hq := (ca.2 q hn).2.1
  have aq : (crashAt keep s.looseL s.looseL.length).1 q = false := by
    cases e : (crashAt keep s.looseL s.looseL.length).1 q with
    | false => rfl
    | true =>
      obtain ⟨_, q', e2, e3⟩ := ca.1 q e
      rw [hn] at e2
      have := Option.some.inj e2
      omega
  have ns : ∀ i m, ρ i = m → m ≠ 2 → ¬ i = sv := fun i m hm hne x => by rw [x, h.r2] at hm; omega
  have h4 := h.r4 q hq
  have nq : ∀ i m, ρ i = m → m ≠ 4 + 2 * q → ¬ i = SB q := fun i m hm hne x => by rw [x, h4] at hm; omega
  have o1 : Chg (Own ρ) w1 wr := hch.mono (fun i _ x => by rw [show i = sv from x]; show ρ sv ≠ 0; rw [h.r2]; decide)
  have o2 : Chg (Own ρ) wr w2 := hc.mono (fun i _ x => by rw [show i = SB q from x]; show ρ (SB q) ≠ 0; rw [h4]; omega)
  refine ⟨o1.trans o2 (fun _ _ x => x), hc.blk (hch.blk h.b (ns d 1 h.r1 (by decide))) (nq d 1 h.r1 (by omega)), ⟨C, hc.blk hC (nq sv 2 h.r2 (by omega)), hS⟩, (h.mp.chg hch (ns mb 3 h.r3 (by decide))).chg hc (nq mb 3 h.r3 (by omega)), fun i hi => ?_⟩
  by_cases c : (crashAt keep s.looseL s.looseL.length).1 i = true
  · obtain ⟨a, _⟩ := ca.1 i c
    obtain ⟨l, hli⟩ := Option.isSome_iff_exists.mp a
    have e : (s.crash keep torn).sure i = l := by
      unfold DSt.crash
      simp only [c]
      rw [hli]; rfl
    rw [e, if_pos c, if_pos c]
    have h5 := h.r5 i l hli
    exact ((h.lo i l hli).2.chg hch (ns _ _ h5 (by omega))).chg hc (nq _ _ h5 (by omega))
  · rw [if_neg c, if_neg c]
    by_cases e : i = q
    · subst e
      have e2 : (s.crash keep torn).sure i = lq.take (cut64 torn) ++ (s.sure i).drop (cut64 torn) := by
        unfold DSt.crash
        simp only [aq, hn, hl]
        simp
      rw [e2]; exact hR
    · have e2 : (s.crash keep torn).sure i = s.sure i := by
        unfold DSt.crash
        have : ¬ (some q = some i) := fun x => e (Option.some.inj x).symm
        simp only [Bool.not_eq_true] at c
        simp only [c, hn]
        rw [if_neg this]; rfl
      rw [e2]
      have h4i := h.r4 i hi
      exact ((h.su i hi).chg hch (ns _ _ h4i (by omega))).chg hc (nq _ _ h4i (by omega))
set_option maxRecDepth 100000 in
set_option maxHeartbeats 4000000 in
theorem crash_any (d : Nat) (ρ : Nat → Nat) (s : DSt) (keep torn : Int) (w : World) (k0 : 0 ≤ keep) (k1 : keep < 18446744073709551616) (h : DiskAt w d ρ s) : Calls Try.prog 28 #[.pointer (some ⟨d, 0, none⟩), .int .u64 keep, .int .i64 torn] w (CrashPost w d ρ s keep torn) := by
  have hlo := loose_any d ρ s w h
  obtain ⟨sv, mb, cap, SV, SB, LV, LB, h⟩ := h
  have n2 := h.n2
  have nc := h.nc
  have H := Lib.hid h
  clear h
  go_enter Try.func28, Try.ntmps28
  go_wp2_with fail
  refine hlo.mono ?_
  rintro e w1 ⟨v, rfl, hown, hC1⟩
  clear hlo
  have hll : s.looseL.length ≤ 4096 := by
    have : s.looseL.length ≤ s.n := by
      unfold DSt.looseL
      rw [List.length_map]
      exact Nat.le_trans (List.length_filter_le _ _) (by simp)
    omega
  obtain ⟨A, c, rfl, _, hlc, hrd, hoff⟩ := own_rd hown (by omega)
  have hp := H.out.chg hC1 (fun _ _ x => x)
  have d0 : ¬ d = sv := fun x => by have h3 := hp.r2; rw [← x, hp.r1] at h3; cases h3
  have hsl : sv < w.heap.size := by obtain ⟨C0, hC0, _⟩ := H.out.sr; exact blt hC0
  have HP := Lib.hid (And.intro hp (And.intro hC1 (And.intro hoff hsl)))
  have hcr : CrR w1 s sv SV LV (crashAt keep s.looseL 0) (.int .i64 (-1)) w1 := by
    obtain ⟨C, hC, hS⟩ := hp.sr
    exact ⟨rfl, C, hC, hS, Chg.refl _ _⟩
  clear hp hown hC1 H hoff hsl
  generalize hL : s.looseL = L at *
  go_wp2_with fail
  go_loopw [6, 14] (fun last i wr => ∃ j : Nat, j ≤ L.length ∧ i = .int .i64 j ∧ CrR w1 s sv SV LV (crashAt keep L j) last wr) (fun _ i wr => (L.length - intOf i).toNat)
  case atStart => exact ⟨0, by omega, rfl, hcr⟩
  case round =>
    clear hcr
    obtain ⟨j, hj, rfl, hcr⟩ := hrel
    by_cases hlt : j < L.length
    · obtain ⟨ad, rfl, hcell⟩ := hrd.at_ j hlt
      obtain ⟨x, hx, hx1, hx2⟩ := looseL_x s j (by rw [hL]; exact hlt)
      rw [hL] at hx
      rw [hx] at hcell
      have hcw : wr.cell? (ad.add j) = some (.int .i64 x) := hcr.2.elim fun C hC => hC.2.2.cell hcell (fun e => by
        have := HP.out.2.2.1 ad rfl
        have hs := HP.out.2.2.2
        have e' : (ad.add j).block = ad.block := by unfold Addr.add; split <;> rfl
        rw [e'] at e
        exact this (by rw [e]; exact hs))
      by_cases c64 : 64 ≤ j
      · have hk : keptAt keep j = false := by unfold keptAt; simp; omega
        have nx := hcr
        rw [← crash_skip (L := L) hk] at nx
        have N := Lib.hid nx
        obtain ⟨rfl, _⟩ := hcr
        generalize lastV (crashAt keep L j).2 = last at *
        clear nx
        go_wp2_with fail
        exact ⟨⟨j + 1, by omega, rfl, N.out⟩, by simp [intOf]; omega⟩
      · have c64' : decide (64 ≤ (j : Int)) = false := by simp; omega
        have hbit := bit_is keep j k0 k1
        by_cases hk : keptAt keep j = false
        · have nx := hcr
          rw [← crash_skip (L := L) hk] at nx
          have hbb : (bits BinOp.and IntKind.u64 (keep / 2 ^ j) 1 == 0) = true := by
            rw [hbit]
            unfold keptAt at hk
            rw [decide_eq_true (by omega), Bool.true_and, decide_eq_false_iff_not] at hk
            rw [beq_iff_eq]
            omega
          have N := Lib.hid nx
          obtain ⟨rfl, _⟩ := hcr
          generalize lastV (crashAt keep L j).2 = last at *
          clear nx hbit
          go_wp2_with fail
          exact ⟨⟨j + 1, by omega, rfl, N.out⟩, by simp [intOf]; omega⟩
        · have hk : keptAt keep j = true := by simpa using hk
          have hbb : (bits BinOp.and IntKind.u64 (keep / 2 ^ j) 1 == 0) = false := by
            rw [hbit]
            unfold keptAt at hk
            rw [decide_eq_true (by omega), Bool.true_and, decide_eq_true_eq] at hk
            rw [hk]; rfl
          clear hbit
          have hcr2 := hcr
          rw [← hL] at hcr2
          cases hq : (crashAt keep L j).2 with
          | none =>
            have N := Lib.hid (hcr2.first hk (by rw [hL]; exact hlt) (by rw [hL]; exact hq))
            clear hcr2
            rw [hL, hx] at N
            obtain ⟨rfl, _⟩ := hcr
            rw [hq]
            simp only [lastV]
            go_wp2_with fail
            exact ⟨⟨j + 1, by omega, rfl, N.out⟩, by simp [intOf]; omega⟩
          | some q =>
            have N := hcr2.next hk (by rw [hL]; exact hlt) (by rw [hL]; exact hq)
            rw [hL, hx] at N
            have ca := (crashAt_ca keep s j (by rw [hL]; exact hj)).2 q (by rw [hL]; exact hq)
            obtain ⟨q1, q2, _⟩ := ca
            obtain ⟨rfl, C, hC, hS, hch⟩ := hcr
            rw [hq]
            simp only [lastV]
            have hp := HP.out.1
            obtain ⟨lq, hlq⟩ := Option.isSome_iff_exists.mp q1
            obtain ⟨cq, Cq, hvq, _⟩ := (hp.lo q lq hlq).2.2.2
            obtain ⟨m0, m1, _⟩ := six hp.b
            have c0 := hch.cell m0 d0
            have c1 := hch.cell m1 d0
            have hms : ¬ mb = sv := fun e => by have h3 := hp.r3; rw [e, hp.r2] at h3; cases h3
            have hlk := fun cc => run_lookup_some (P := Try.prog) 74 3 31 Try.underlying74 Try.underlying3 (hp.mp.chg (hch.drew) hms) q (LV q) (by unfold looseM; rw [if_pos (by omega), Int.toNat_natCast, hlq]; rfl) cc
            obtain ⟨cx, csq⟩ : ∃ x, wr.cell? ⟨sv, q, none⟩ = some x := ⟨_, (bcell hC q).trans (hS q q2)⟩
            have fsq := bfroz hC q
            clear hcr2
            rw [hvq] at hlk N
            replace hlk := hlk false
            simp only [Bool.false_eq_true, if_false] at hlk
            have NN := Lib.hid N
            clear N hp hS hC hch hvq m0 m1
            go_wp2_with fail
            go_region
            go_wp2_with fail
            exact ⟨⟨j + 1, by omega, rfl, NN.out.drew⟩, by simp [intOf]; omega⟩
    · obtain rfl : j = L.length := by omega
      have hcr2 := hcr
      rw [← hL] at hcr2
      have hp := HP.out.1
      cases hq : (crashAt keep L L.length).2 with
      | none =>
        have R := rdy_none (torn := torn) hp hcr2 (by rw [hL]; exact hq)
        have e6 := hcr.1
        rw [hq] at e6
        subst e6
        simp only [lastV]
        obtain ⟨m0, m1, _⟩ := six R.2.1
        have hmm := R.2.2.2.1
        have FN := Lib.hid (fun w3 => Rdy.fin (w3 := w3) hp HP.out.2.1 R)
        clear R hp hcr hcr2 m0
        go_wp2_with (first
          | (refine clear_at rfl _ 74 3 31 rfl Try.underlying74 mb _ rfl hmm ?_; intro w3 hm3 hc3; obtain ⟨⟨x2, x3, x4, x5, y2, y3, y4, y5⟩, hfz, hpost⟩ := FN.out w3 hm3 hc3)
          | go_in)
        go_end0
        exact hpost
      | some q =>
        have ca := crashAt_ca keep s s.looseL.length (Nat.le_refl _)
        have hq' : (crashAt keep s.looseL s.looseL.length).2 = some q := by rw [hL]; exact hq
        obtain ⟨q1, q2, _⟩ := ca.2 q hq'
        have aq : (crashAt keep L L.length).1 q = false := by
          cases e : (crashAt keep L L.length).1 q with
          | false => rfl
          | true =>
            obtain ⟨_, q', e2, e3⟩ := ca.1 q (by rw [hL]; exact e)
            rw [hq'] at e2
            have := Option.some.inj e2
            omega
        obtain ⟨lq, hlq⟩ := Option.isSome_iff_exists.mp q1
        have e6 := hcr.1
        rw [hq] at e6
        subst e6
        simp only [lastV]
        obtain ⟨_, C, hC, hS, hch⟩ := hcr
        have hms : ¬ mb = sv := fun e => by have h3 := hp.r3; rw [e, hp.r2] at h3; cases h3
        have hlk := run_lookup_some (P := Try.prog) 74 3 31 Try.underlying74 Try.underlying3 (hp.mp.chg (hch.drew) hms) q (LV q) (by unfold looseM; rw [if_pos (by omega), Int.toNat_natCast, hlq]; rfl) false
        simp only [Bool.false_eq_true, if_false] at hlk
        obtain ⟨m0, m1, _⟩ := six hp.b
        have c0 := hch.cell m0 d0
        have c1 := hch.cell m1 d0
        have csq := (bcell hC q).trans (hS q q2)
        rw [aq] at csq
        simp only [Bool.false_eq_true, if_false] at csq
        have h4 := hp.r4 q q2
        have h5 := hp.r5 q lq hlq
        have h2 := hp.r2
        have R1 := ((hp.su q q2).chg hch (fun e => by rw [e, h2] at h4; omega)).chg ((Chg.refl NoB wr).drew) (fun x => x)
        have R2 := ((hp.lo q lq hlq).2.chg hch (fun e => by rw [e, h2] at h5; omega)).chg ((Chg.refl NoB wr).drew) (fun x => x)
        obtain ⟨ks, _, hsv, _⟩ := R1.2.2
        obtain ⟨kl, _, hlv, _⟩ := R2.2.2
        rw [hsv] at csq
        rw [hlv] at hlk
        have fin : ∀ w2, Row w2 (SV q) (SB q) (lq.take (cut64 torn) ++ (s.sure q).drop (cut64 torn)) → Chg (· = SB q) wr w2 → w2.cell? ⟨d, 0, none⟩ = some (.slice (some ⟨sv, 0, none⟩) s.n cap) ∧ w2.cell? ⟨d, 1, none⟩ = some (.map (some mb)) ∧ MapAt w2 mb (looseM s LV) ∧ ∀ w3, MapAt w3 mb (fun _ => none) → Chg (· = mb) w2 w3 → _ :=
          fun w2 hR hc => by
            have R := rdy_some (torn := torn) hp hcr2 hq' hlq hR hc
            obtain ⟨z0, z1, _⟩ := six R.2.1
            exact ⟨z0, z1, R.2.2.2.1, fun w3 => Rdy.fin (w3 := w3) hp HP.out.2.1 R⟩
        have FN := Lib.hid fin
        have hcp := fun t ht => copy_cut R1 R2 t ht ks kl
        have HC := Lib.hid hcp
        clear hcp fin hp hcr2 R1 R2 hsv hlv hC hS hch ca m0 m1
        obtain ⟨w2, hcp, hR, hc⟩ := HC.out (cut64 torn) (by unfold cut64; omega)
        have hc' : Chg (· = SB q) wr w2 := ((Chg.refl _ wr).drew).trans hc (fun _ _ x => x)
        obtain ⟨z0, z1, hmm, hf⟩ := FN.out w2 hR hc'
        have F2 := Lib.hid hf
        unfold cut64 at hcp
        clear hR hc hc' FN HC hf
        go_wp2_with fail
        go_region
        go_wp2_with (first
          | (refine clear_at rfl _ 74 3 31 rfl Try.underlying74 mb _ rfl hmm ?_; intro w3 hm3 hc3; obtain ⟨⟨x2, x3, x4, x5, y2, y3, y4, y5⟩, hfz, hpost⟩ := F2.out w3 hm3 hc3)
          | go_in)
        go_end0
        exact hpost
end Go.Proofs.Ytmonkoclbcahiaa.Disk
