/- TreeEnds: when a tree is closed (printed by lib/mkte.py). -/
import Derived.Test.YtimdojkhdneecaaTreeAc
import Derived.Deep.RegionHeld3
namespace Go.Proofs.Ytimdojkhdneecaa.Tree
open Go.RowKit Go.Proofs.Ytimdojkhdneecaa.Hp Go.Proofs.Ytimdojkhdneecaa.Ram Go.Proofs.Ytimdojkhdneecaa.Word Go.Proofs.Ytimdojkhdneecaa.WordP Go.Proofs.Ytimdojkhdneecaa.Pool
set_option linter.unusedVariables false
set_option linter.unusedSimpArgs false
def EnRel (w : World) (pm bl p b bi t len : Nat) (i : Value) (wr : World) : Prop := ∃ (k : Nat) (S : PS) (B : Nat → Nat → Int) (root : Nat) (ov : Value) (s : TS) (L : Nat → Ent), k ≤ len ∧ i = .int .i64 (k : Int) ∧ Lw w wr pm bl p b bi t S B root ov s L ∧ capN S s.own = 128
theorem sort_mem {l : List Nat} {f : Nat} : f ∈ sortN l ↔ f ∈ l := by
  unfold sortN
  exact (List.mergeSort_perm l _).mem_iff
theorem sort_len (l : List Nat) : (sortN l).length = l.length := by
  unfold sortN
  exact (List.mergeSort_perm l _).length_eq
theorem u8b {n : Int} (h : (Lit.int .u8 n).wf = true) : 0 ≤ n ∧ n ≤ 255 := by
  have h2 : (decide (IntKind.u8.min ≤ n) && decide (n ≤ IntKind.u8.max)) = true := h
  have e1 : IntKind.u8.min = 0 := rfl
  have e2 : IntKind.u8.max = 255 := rfl
  rw [Bool.and_eq_true, decide_eq_true_iff, decide_eq_true_iff, e1, e2] at h2
  exact h2
set_option maxRecDepth 100000 in
set_option maxHeartbeats 8000000 in
theorem treeEnds (A : Option Addr) (len cap : Nat) (X : Nat → TAct) (bad : Int) (w : World) (b0 : 0 ≤ bad) (b1 : bad ≤ 255) (hl : (len : Int) ≤ 9223372036854775807) (h : IsTActs w A len cap X) :
    Calls Try.prog 7 #[.slice A len cap, .int .u8 bad] w (True1 w) := by
  rcases Nat.lt_or_ge 40 len with h40 | h40
  · have d0 : decide ((40 : Int) < (len : Int)) = true := decide_eq_true (by omega)
    have d1 : decide (40 < len) = true := decide_eq_true h40
    clear h
    go_enter Try.func7, Try.ntmps7
    go_wp2_with fail
    refine (answers_any w).mono ?_
    rintro e w1 ⟨rfl, hC⟩
    go_wp2_with fail
    go_ret
    exact ⟨rfl, hC⟩
  · have d0 : decide ((40 : Int) < (len : Int)) = false := decide_eq_false (by omega)
    have d1 : decide (40 < len) = false := decide_eq_false (by omega)
    have hpa := parts_any 4 (by decide) w
    rw [show ((4 : Nat) : Int) = 4 from rfl] at hpa
    have HA := Lib.hid h
    clear h
    go_enter Try.func7, Try.ntmps7
    go_wp2_with fail
    refine hpa.mono ?_
    rintro e w1 ⟨pm, bl, p, b, bi, rfl, hP, hR, hlo, hd⟩
    have hfc := free_count hP
    unfold FreeTo at hfc
    rw [fN_part 4 (by decide), show ((4 * 32 : Nat) : Int) = 128 from rfl] at hfc
    have hnw := new_part ⟨by decide, by decide⟩ hP hR hlo hd
    clear hpa hP hR hlo hd
    go_wp2_with fail
    refine hfc.mono ?_
    rintro e w2 ⟨rfl, rfl⟩
    clear hfc
    go_wp2_with fail
    refine hnw.mono ?_
    rintro e w2 ⟨t, f, S, B, ov, s, rfl, hL, hcap, _⟩
    have hB : EnRel w pm bl p b bi t len (.int .i64 0) w2 := ⟨0, S, B, f, ov, s, _, Nat.zero_le _, rfl, hL, by rw [hcap, fN_part 4 (by decide)]⟩
    have HB := Lib.hid hB
    clear hnw hL hcap hB
    go_wp2_with fail
    have hB := HB.out
    clear HB
    go_loopw [10] (fun i wr => EnRel w pm bl p b bi t len i wr) (fun i wr => len - (intOf i).toNat)
    case atStart => exact hB
    case round =>
      clear hB
      obtain ⟨k, S, B, root, ov, s, L, hk, rfl, hL, hcap⟩ := hrel
      rcases Nat.eq_or_lt_of_le hk with hk2 | hk2
      · have e0 : decide ((k : Int) < (len : Int)) = false := decide_eq_false (by omega)
        have e1 : decide (k < len) = false := decide_eq_false (by omega)
        have htb := tables_any hL.ti.tl hL.ti.len
        obtain ⟨n, hn⟩ : ∃ n, n = s.own.length := ⟨_, rfl⟩
        have hn0 : 0 < n := by
          rw [hn]
          refine List.length_pos_of_mem ((hL.ti.ok.mem root).mpr ⟨0, 0, hL.ti.rt⟩)
        have hn1 : n ≤ 1024 := by rw [hn]; exact hL.ti.len
        obtain ⟨ss, hss⟩ : ∃ ss, ss = sortN s.own := ⟨_, rfl⟩
        have hssl := Lib.hid (show ss.length = n by rw [hss, sort_len, hn])
        unfold TabsTo at htb
        rw [← hn, ← hss] at htb
        have hfe := free_end hL.ti.ok.nodup hL.ti.use
        rw [hcap] at hfe
        have HL := Lib.hid (And.intro hL (And.intro hcap (And.intro hn (And.intro hss hfe))))
        have nz : ((n : Int) == 0) = false := by rw [beq_eq_false_iff_ne]; omega
        clear hL hcap hn hss hfe HA
        go_wp2_with fail
        refine htb.mono ?_
        rintro e w5 ⟨v, rfl, hrow5, hC5⟩
        obtain ⟨g, c, rfl, hg, _⟩ := own_pos hrow5 (by omega)
        have hof : ∀ i, (Value.slice (some ⟨g, 0, none⟩) n c).ownBlock = some i → ¬ TX p bi bl t ov i := fun i hi x => by
          have h1 := HL.out.1.ti.lts i x
          have h2 := (Own.own_ge hrow5 i hi).1
          omega
        have hT5 := HL.out.1.ti.tl.keep hC5
        have hub : bad.tmod 2 = 0 ∨ bad.tmod 2 = 1 := by rw [Int.tmod_eq_emod_of_nonneg b0]; omega
        rcases hub with hb2 | hb2
        · have hb3 : IntKind.u8.wrap (bad.tmod 2) = 0 := by rw [hb2]; rfl
          have HT8 := Lib.hid (show TL w w5 pm bl p b bi t S B root s.own ov ∧ w5.ownsRow wr.heap.size 3 1 (.slice (some ⟨g, 0, none⟩) n c) n (ownV ss) ∧ (∀ i, (Value.slice (some ⟨g, 0, none⟩) n c).ownBlock = some i → ¬ TX p bi bl t ov i) ∧ s.own.length ≤ 1024 ∧ freeN (freeAll S s.own) = 128 from ⟨hT5, hrow5, hof, HL.out.1.ti.len, HL.out.2.2.2.2⟩)
          clear htb hrow5 hC5 hof hT5 HL hg
          have hcl := close_any HT8.out.1 HT8.out.2.2.2.1
          go_wp2_with fail
          refine hcl.mono ?_
          rintro e w9 ⟨rfl, hT9, hC9⟩
          have hrow9 : w9.ownsRow wr.heap.size 3 1 (.slice (some ⟨g, 0, none⟩) n c) n (ownV ss) := Own.own_chg HT8.out.2.1 hC9 (fun i hi x => HT8.out.2.2.1 i hi x)
          have cA : Chg NoB w9 (w9.alloc (.cells #[.int .i64 0, .int .i64 0, .bool false] 33)) := (Chg.refl NoB w9).alloc _
          have hgt := get_may 0 2 (by decide) (may_any (n := 0) (c := 0) (A := none) 0 (hT9.keep cA).st)
          have HT9 := Lib.hid (And.intro hT9 hrow9)
          clear hcl hT9 hC9 hrow9 cA
          go_wp2_with fail
          refine hgt.mono ?_
          rintro e w10 ⟨rfl, hC10⟩
          have hC11 := hC10.alloc (.cells #[.int .i64 0, .int .i64 0, .bool false] 33)
          obtain ⟨w11, hw11⟩ : ∃ w11, w11 = w10.alloc (.cells #[.int .i64 0, .int .i64 0, .bool false] 33) := ⟨_, rfl⟩
          have b11 : Blk w11 w10.heap.size #[.int .i64 0, .int .i64 0, .bool false] 33 := by rw [hw11]; exact bnew w10 _
          rw [← hw11] at hC11
          have han := answers_any w11
          have H11 := Lib.hid (And.intro hC11 (And.intro b11 hw11))
          clear hgt hC10 hC11 b11 hw11
          go_wp2_with fail
          rw [← H11.out.2.2]
          refine han.mono ?_
          rintro e w12 ⟨rfl, hC12⟩
          have c12 := H11.out.1.trans hC12 (fun _ _ x => x)
          have hT12 := HT9.out.1.keep c12
          have hfc := free_count hT12.pl
          unfold FreeTo at hfc
          rw [HT8.out.2.2.2.2] at hfc
          have htb := tables_any hT12 (Nat.zero_le _)
          have row12 := Own.own_chg HT9.out.2 c12 (fun _ _ x => x)
          have b12 := hC12.blk (show Blk w11 _ _ _ from H11.out.2.1) (fun x => x)
          have H12 := Lib.hid (And.intro hT12 (And.intro row12 b12))
          clear han hC12 c12 hT12 row12 b12
          go_wp2_with fail
          refine hfc.mono ?_
          rintro e w13 ⟨rfl, rfl⟩
          clear hfc
          go_wp2_with fail
          refine htb.mono ?_
          rintro e w13 ⟨v, rfl, hr13, hC13⟩
          obtain ⟨A13, c13, rfl⟩ := own_form (w0 := w12) hr13
          have hT13 := H12.out.1.keep hC13
          have row13 := Own.own_chg H12.out.2.1 hC13 (fun _ _ x => x)
          have b13 := hC13.blk (show Blk w12 _ _ _ from H12.out.2.2) (fun x => x)
          obtain ⟨f0, hf0⟩ : ∃ f0, ss[0]? = some f0 := ⟨_, List.getElem?_eq_getElem (by rw [hssl.out]; exact hn0)⟩
          have z0 : w13.cell? ⟨g, 0, none⟩ = some (.int .i64 (f0 : Int)) := by
            rw [row13.cellAt 0 (by rw [Nat.mul_one]; exact hn0)]
            exact ownV_at hf0
          have how := owns_any (f0 : Int) hT13 (Nat.zero_le _)
          rw [show decide ((f0 : Int) ∈ ownI []) = false from rfl] at how
          have y0 : w13.cell? ⟨w10.heap.size, 0, none⟩ = some (.int .i64 0) := by rw [bcell b13]; rfl
          have y1 : w13.cell? ⟨w10.heap.size, 1, none⟩ = some (.int .i64 0) := by rw [bcell b13]; rfl
          have y2 : w13.cell? ⟨w10.heap.size, 2, none⟩ = some (.bool false) := by rw [bcell b13]; rfl
          have cS : Chg NoB w13 (w13.alloc (.cells #[.int .i64 0, .int .i64 0, .bool false] 33)) := (Chg.refl NoB w13).alloc _
          have hsm := set_may 0 2 0 0 false (by decide) (may_any (n := 0) (c := 0) (A := none) 0 (hT13.keep cS).st)
          have H13 := Lib.hid hT13
          clear htb hr13 hC13 row13 b13 hf0 cS hT13 H12
          go_wp2_with fail
          refine how.mono ?_
          rintro e w14 ⟨rfl, rfl⟩
          clear how
          go_wp2_with fail
          refine hsm.mono ?_
          rintro e w14 ⟨rfl, hC14⟩
          have F := Lib.hid (show True1 w (.returned (.bool true)) w14 from ⟨rfl, (H13.out.keep hC14).pl.ch⟩)
          clear hsm hC14 H13 z0 y0 y1 y2
          go_wp2_with fail
          go_ret
          exact F.out
        · have hb3 : IntKind.u8.wrap (bad.tmod 2) = 1 := by rw [hb2]; rfl
          have hb4 : IntKind.i64.wrap bad = bad := IntWalk.i64_in _ ⟨by omega, by omega⟩
          obtain ⟨J, hJ⟩ : ∃ J : Nat, bad.tmod (n : Int) = (J : Int) := by
            rw [Int.tmod_eq_emod_of_nonneg b0]
            exact ⟨(bad % (n : Int)).toNat, by have := Int.emod_nonneg bad (show (n : Int) ≠ 0 by omega); omega⟩
          have hJn : J < n := by
            have h1 := Int.emod_lt_of_pos bad (show (0 : Int) < (n : Int) by omega)
            rw [Int.tmod_eq_emod_of_nonneg b0] at hJ
            omega
          obtain ⟨fj, hfj⟩ : ∃ fj, ss[J]? = some fj := ⟨_, List.getElem?_eq_getElem (by rw [hssl.out]; exact hJn)⟩
          have hfo : fj ∈ s.own := by
            have := List.mem_of_getElem? hfj
            rw [HL.out.2.2.2.1, sort_mem] at this
            exact this
          obtain ⟨hfj1, hfj2⟩ := HL.out.1.ti.use fj hfo
          have zj : w5.cell? ⟨g, J, none⟩ = some (.int .i64 (fj : Int)) := by
            rw [hrow5.cellAt J (by rw [Nat.mul_one]; exact hJn)]
            exact ownV_at hfj
          have hsp := spoil_at fj hT5.pl hfj1 hfj2
          have i1 : (J : Int) < (n : Int) := by omega
          have i0 : (0 : Int) < (n : Int) := by omega
          have hJ2 : wrap64 (J : Int) = J := w64_id' _ (by omega) (by omega)
          have HF := Lib.hid (And.intro hfo (And.intro hT5 (And.intro hrow5 hof)))
          clear htb hrow5 hC5 hof hT5 hg hfj hfo hfj1 hfj2
          go_wp2_with fail
          refine hsp.mono ?_
          rintro e w8 ⟨rfl, hP8, hC8⟩
          have hfl := free_lost HL.out.1.ti.ok.nodup HL.out.1.ti.use HF.out.1
          rw [HL.out.2.1] at hfl
          have HT8 := Lib.hid (show TL w w8 pm bl p b bi t (useF S fj 6) B root s.own ov ∧ w8.ownsRow wr.heap.size 3 1 (.slice (some ⟨g, 0, none⟩) n c) n (ownV ss) ∧ (∀ i, (Value.slice (some ⟨g, 0, none⟩) n c).ownBlock = some i → ¬ TX p bi bl t ov i) ∧ s.own.length ≤ 1024 ∧ freeN (freeAll (useF S fj 6) s.own) = 127 from ⟨HF.out.2.1.pool hP8 hC8, Own.own_chg HF.out.2.2.1 hC8 (fun i hi x => HF.out.2.2.2 i hi (x.elim (fun y => .inl y) (fun y => .inr (.inl y)))), HF.out.2.2.2, HL.out.1.ti.len, by omega⟩)
          clear hsp hP8 hC8 hfl HF zj HL hJ hJ2 hb4
          have hcl := close_any HT8.out.1 HT8.out.2.2.2.1
          go_wp2_with fail
          refine hcl.mono ?_
          rintro e w9 ⟨rfl, hT9, hC9⟩
          have hrow9 : w9.ownsRow wr.heap.size 3 1 (.slice (some ⟨g, 0, none⟩) n c) n (ownV ss) := Own.own_chg HT8.out.2.1 hC9 (fun i hi x => HT8.out.2.2.1 i hi x)
          have cA : Chg NoB w9 (w9.alloc (.cells #[.int .i64 0, .int .i64 0, .bool false] 33)) := (Chg.refl NoB w9).alloc _
          have hgt := get_may 0 2 (by decide) (may_any (n := 0) (c := 0) (A := none) 0 (hT9.keep cA).st)
          have HT9 := Lib.hid (And.intro hT9 hrow9)
          clear hcl hT9 hC9 hrow9 cA
          go_wp2_with fail
          refine hgt.mono ?_
          rintro e w10 ⟨rfl, hC10⟩
          have hC11 := hC10.alloc (.cells #[.int .i64 0, .int .i64 0, .bool false] 33)
          obtain ⟨w11, hw11⟩ : ∃ w11, w11 = w10.alloc (.cells #[.int .i64 0, .int .i64 0, .bool false] 33) := ⟨_, rfl⟩
          have b11 : Blk w11 w10.heap.size #[.int .i64 0, .int .i64 0, .bool false] 33 := by rw [hw11]; exact bnew w10 _
          rw [← hw11] at hC11
          have han := answers_any w11
          have H11 := Lib.hid (And.intro hC11 (And.intro b11 hw11))
          clear hgt hC10 hC11 b11 hw11
          go_wp2_with fail
          rw [← H11.out.2.2]
          refine han.mono ?_
          rintro e w12 ⟨rfl, hC12⟩
          have c12 := H11.out.1.trans hC12 (fun _ _ x => x)
          have hT12 := HT9.out.1.keep c12
          have hfc := free_count hT12.pl
          unfold FreeTo at hfc
          rw [HT8.out.2.2.2.2] at hfc
          have htb := tables_any hT12 (Nat.zero_le _)
          have row12 := Own.own_chg HT9.out.2 c12 (fun _ _ x => x)
          have b12 := hC12.blk (show Blk w11 _ _ _ from H11.out.2.1) (fun x => x)
          have H12 := Lib.hid (And.intro hT12 (And.intro row12 b12))
          clear han hC12 c12 hT12 row12 b12
          go_wp2_with fail
          refine hfc.mono ?_
          rintro e w13 ⟨rfl, rfl⟩
          clear hfc
          go_wp2_with fail
          refine htb.mono ?_
          rintro e w13 ⟨v, rfl, hr13, hC13⟩
          obtain ⟨A13, c13, rfl⟩ := own_form (w0 := w12) hr13
          have hT13 := H12.out.1.keep hC13
          have row13 := Own.own_chg H12.out.2.1 hC13 (fun _ _ x => x)
          have b13 := hC13.blk (show Blk w12 _ _ _ from H12.out.2.2) (fun x => x)
          obtain ⟨f0, hf0⟩ : ∃ f0, ss[0]? = some f0 := ⟨_, List.getElem?_eq_getElem (by rw [hssl.out]; exact hn0)⟩
          have z0 : w13.cell? ⟨g, 0, none⟩ = some (.int .i64 (f0 : Int)) := by
            rw [row13.cellAt 0 (by rw [Nat.mul_one]; exact hn0)]
            exact ownV_at hf0
          have how := owns_any (f0 : Int) hT13 (Nat.zero_le _)
          rw [show decide ((f0 : Int) ∈ ownI []) = false from rfl] at how
          have y0 : w13.cell? ⟨w10.heap.size, 0, none⟩ = some (.int .i64 0) := by rw [bcell b13]; rfl
          have y1 : w13.cell? ⟨w10.heap.size, 1, none⟩ = some (.int .i64 0) := by rw [bcell b13]; rfl
          have y2 : w13.cell? ⟨w10.heap.size, 2, none⟩ = some (.bool false) := by rw [bcell b13]; rfl
          have cS : Chg NoB w13 (w13.alloc (.cells #[.int .i64 0, .int .i64 0, .bool false] 33)) := (Chg.refl NoB w13).alloc _
          have hsm := set_may 0 2 0 0 false (by decide) (may_any (n := 0) (c := 0) (A := none) 0 (hT13.keep cS).st)
          have H13 := Lib.hid hT13
          clear htb hr13 hC13 row13 b13 hf0 cS hT13 H12
          go_wp2_with fail
          refine how.mono ?_
          rintro e w14 ⟨rfl, rfl⟩
          clear how
          go_wp2_with fail
          refine hsm.mono ?_
          rintro e w14 ⟨rfl, hC14⟩
          have F := Lib.hid (show True1 w (.returned (.bool true)) w14 from ⟨rfl, (H13.out.keep hC14).pl.ch⟩)
          clear hsm hC14 H13 z0 y0 y1 y2
          go_wp2_with fail
          go_ret
          exact F.out
      · have e0 : decide ((k : Int) < (len : Int)) = true := decide_eq_true (by omega)
        have e1 : decide (k < len) = true := decide_eq_true hk2
        rcases HA.out with ⟨_, h0, _⟩ | ⟨ad, rfl, _, _, hat⟩
        · omega
        obtain ⟨x0, x1, x2, x3⟩ := ((hat k hk2).old hL.ti.tl.pl.ch.drew).four
        have i1 : (k : Int) < (len : Int) := by omega
        have hms := Lib.hid (show len - ((k : Int) + 1).toNat < len - (k : Int).toNat by omega)
        have hst := lset_any (X k).page (X k).ent (hL.keep ((Chg.refl NoB wr).drew))
        have fin : ∀ e w2, LSet w wr.drew pm bl p b bi t S B root ov s L (X k).page (X k).ent e w2 → ∃ E, e = .returned (.int .i64 E) ∧ EnRel w pm bl p b bi t len (.int .i64 ((k : Int) + 1)) w2 ∧ Chg NoB w w2 := fun e w2 hp => by
          obtain ⟨E, S', B', s', ov', L', rfl, hL', hmv, _⟩ := hp
          exact ⟨E, rfl, ⟨k + 1, S', B', root, ov', s', L', hk2, rfl, hL', by rw [hmv.cap (fun f hf => (hL.ti.use f hf).1), hcap]⟩, hL'.ti.tl.pl.ch⟩
        have FI := Lib.hid fin
        have KE : ∀ W, Chg NoB w W → W.cell? (ad.add (k * 4)) = some (.int .i64 (X k).page) ∧ W.cell? ⟨(ad.add (k * 4)).block, (ad.add (k * 4)).off + 1, none⟩ = some (.int .i64 (X k).ent.1) ∧ W.cell? ⟨(ad.add (k * 4)).block, (ad.add (k * 4)).off + 2, none⟩ = some (.int .i64 (X k).ent.2.1) ∧ W.cell? ⟨(ad.add (k * 4)).block, (ad.add (k * 4)).off + 3, none⟩ = some (.bool (X k).ent.2.2) := fun W hc => ((hat k hk2).old hc).four
        have KH := Lib.hid KE
        have hx4 := And.intro x0 (And.intro x1 (And.intro x2 x3))
        unfold eV at hst
        generalize (X k).page = xp at *
        generalize (X k).ent.1 = xk at *
        generalize (X k).ent.2.1 = xn at *
        generalize (X k).ent.2.2 = xw at *
        clear hL hcap fin KE hat HA
        go_wp2_with fail
        go_region_held3 (fun w' => w'.cell? (ad.add (k * 4)) = some (.int .i64 xp) ∧ w'.cell? ⟨(ad.add (k * 4)).block, (ad.add (k * 4)).off + 1, none⟩ = some (.int .i64 xk) ∧ w'.cell? ⟨(ad.add (k * 4)).block, (ad.add (k * 4)).off + 2, none⟩ = some (.int .i64 xn) ∧ w'.cell? ⟨(ad.add (k * 4)).block, (ad.add (k * 4)).off + 3, none⟩ = some (.bool xw)) (first | go_keep | exact f4)
          (first | (go_at_call 10; ((with_reducible refine hst.mono ?_); intro e w3 hp; obtain ⟨E, rfl, hF, hc3⟩ := FI.out e w3 hp; have f4 := KH.out w3 hc3)))
        have F := hF
        clear hst hp FI f4 hF hc3 KH x0 x1 x2 x3 hx4
        go_wp2_with fail
        exact ⟨F, hms.out⟩
theorem treeEnds_row (a : Option Addr) (len cap : Nat) (X : Nat → TAct) (b : Int) (W : World) (w0 : IsTActs W a len cap X) (w1 : (Lit.int .u8 b).wf = true) :
    Calls Try.prog 7 #[.slice a len cap, .int .u8 b] W fun e w' => e = .returned (.bool true) ∧ Below W.heap.size W w' := by
  have hl : (len : Int) ≤ 9223372036854775807 := by
    rcases w0 with ⟨_, h, _⟩ | ⟨_, _, h1, h2, _⟩
    · omega
    · unfold maxLen at h2; omega
  exact (treeEnds a len cap X b W (u8b w1).1 (u8b w1).2 hl w0).mono fun _ _ h => h.row
end Go.Proofs.Ytimdojkhdneecaa.Tree
