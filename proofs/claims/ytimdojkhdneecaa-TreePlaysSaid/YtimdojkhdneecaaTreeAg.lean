/- TreePlays (printed by lib/mktp.py). -/
import Derived.Test.YtimdojkhdneecaaTreeAf
import Derived.Deep.DeepCutAuto
import Derived.Deep.CutBlock
import Derived.BigQuiet
import Derived.Deep.QuietTactic
namespace Go.Proofs.Ytimdojkhdneecaa.Tree
open Go.RowKit Go.Proofs.Ytimdojkhdneecaa.Hp Go.Proofs.Ytimdojkhdneecaa.Ram Go.Proofs.Ytimdojkhdneecaa.Word Go.Proofs.Ytimdojkhdneecaa.WordP Go.Proofs.Ytimdojkhdneecaa.Pool
set_option linter.unusedVariables false
set_option linter.unusedSimpArgs false
def actA (xp xk xn : Int) (xw : Bool) : Array Value := #[.int .i64 xp, .int .i64 xk, .int .i64 xn, .bool xw]
/-- behind Set and the array: the tree and the array say the same -/
def PlMid (w : World) (pm bl p b bi t g T ab : Nat) (xp xk xn : Int) (xw : Bool) (E : Int) (wx : World) : Prop :=
  ∃ L', PlSt w pm bl p b bi t g T L' wx ∧ Blk wx ab (actA xp xk xn xw) 42 ∧ (E = 4 → (0 ≤ xp ∧ xp < 4096) ∧ ∀ pages : List Nat, (∀ q, q ∈ pages ↔ (q = xp.toNat ∨ q ∈ pagesOf L')) → T < tablesN pages)
def pgs (L : Nat → Ent) (q : Nat) : List Nat := (List.range q).filter (fun q => decide ((L q).1 ≠ 0))
theorem pgs_succ (L : Nat → Ent) (q : Nat) : pgs L (q + 1) = if (L q).1 ≠ 0 then pgs L q ++ [q] else pgs L q := by
  unfold pgs
  rw [List.range_succ, List.filter_append]
  by_cases c : (L q).1 ≠ 0
  · rw [if_pos c]; simp [c]
  · rw [if_neg c]; simp [c]
theorem pgs_len (L : Nat → Ent) (q : Nat) : (pgs L q).length ≤ q := by
  unfold pgs
  have := List.length_filter_le (fun q => decide ((L q).1 ≠ 0)) (List.range q)
  simpa using this
def PgMid (w wc : World) (pm bl p b bi t g T : Nat) (L : Nat → Ent) (sv : Value) (n : Nat) (wx : World) : Prop := PlSt w pm bl p b bi t g T L wx ∧ wx.ownsRow wc.heap.size 3 1 sv n (ownV (pagesOf L))
def PgRel (wc : World) (L : Nat → Ent) (sv i : Value) (wr : World) : Prop := ∃ q : Nat, q ≤ 4096 ∧ i = .int .i64 (q : Int) ∧ wr.ownsRow wc.heap.size 3 1 sv (pgs L q).length (ownV (pgs L q)) ∧ Chg NoB wc wr
def AsRel (w : World) (pm bl p b bi t g T : Nat) (L : Nat → Ent) (n : Nat) (i : Value) (wx : World) : Prop := ∃ j : Nat, j ≤ n ∧ i = .int .i64 (j : Int) ∧ PlSt w pm bl p b bi t g T L wx
set_option maxRecDepth 100000 in
set_option maxHeartbeats 20000000 in
theorem treePlays_main (sects : Int) (A : Option Addr) (len cap : Nat) (X : Nat → TAct) (A2 : Option Addr) (zs : List Int) (cap2 : Nat) (w : World) (b0 : 0 ≤ sects) (b1 : sects ≤ 255) (hl : len ≤ 60) (hl2 : zs.length ≤ 60) (h : IsTActs w A len cap X) (hz : Rd w .i64 A2 zs) :
    Calls Try.prog 5 #[.int .u8 sects, .slice A len cap, .slice A2 zs.length cap2] w (True1 w) := by
  have d0 : decide ((60 : Int) < (len : Int)) = false := decide_eq_false (by omega)
  have d1 : decide (60 < len) = false := decide_eq_false (by omega)
  have d2 : decide ((60 : Int) < (zs.length : Int)) = false := decide_eq_false (by omega)
  have d3 : decide (60 < zs.length) = false := decide_eq_false (by omega)
  obtain ⟨V, hV, hV3⟩ : ∃ V : Nat, sects.tmod 3 = (V : Int) ∧ V < 3 := by
    rw [Int.tmod_eq_emod_of_nonneg b0]
    exact ⟨(sects % 3).toNat, by omega, by omega⟩
  have v1 : IntKind.u8.wrap (V : Int) = V := by
    have e : IntKind.u8.wrap (V : Int) = (V : Int) % 256 := rfl
    rw [e]; omega
  have v2 : IntKind.i64.wrap (V : Int) = V := IntWalk.i64_in _ ⟨by omega, by omega⟩
  have hpa := parts_any (V + 1) (by omega) w
  rw [show ((V + 1 : Nat) : Int) = (V : Int) + 1 by omega] at hpa
  have HA := Lib.hid (And.intro h (And.intro hz (And.intro hl hl2)))
  clear h hz b0 b1
  go_enter Try.func5, Try.ntmps5
  go_wp2_with fail
  refine hpa.mono ?_
  rintro e w1 ⟨pm, bl, p, b, bi, rfl, hP, hR, hlo, hd⟩
  have hnw := new_part ⟨by omega, by omega⟩ hP hR hlo hd
  clear hpa hP hR hlo hd v1 v2 hV
  go_wp2_with fail
  refine hnw.mono ?_
  rintro e w2 ⟨t, f, S, B, ov, s, rfl, hL, hcap, hown, _⟩
  rw [fN_part (V + 1) (by omega)] at hcap
  obtain ⟨T, hT⟩ : ∃ T, T = (V + 1) * 32 := ⟨_, rfl⟩
  obtain ⟨M, hM⟩ : ∃ M, M = freeN S := ⟨_, rfl⟩
  have hMT : M + 1 = T := by
    have := hL.cap
    rw [hcap, hown] at this
    simp only [List.length_cons, List.length_nil] at this
    omega
  have hfc := free_count hL.ti.tl.pl
  unfold FreeTo at hfc
  rw [← hM] at hfc
  have hM2 : M < 96 := by omega
  rw [← hT] at hcap
  obtain ⟨Z, hz1, hz2, hz3⟩ := zero_E
  have hPl : PlSt w pm bl p b bi t w2.heap.size T (fun _ => noE) (w2.alloc (.cells Z 40)) := ⟨S, B, f, ov, s, hL.keep ((Chg.refl NoB w2).alloc _), hcap, Z, bnew w2 _, hz3⟩
  have hap : Apart w p bi bl t w2.heap.size := by
    have l1 := hL.ti.lts p (.inl rfl)
    have l2 := hL.ti.lts bi (.inr (.inl rfl))
    have l3 := hL.ti.lts bl (.inr (.inr (.inl rfl)))
    have l4 := hL.ti.lts t (.inr (.inr (.inr (.inl rfl))))
    exact ⟨hL.ti.tl.pl.ch.size, by omega, by omega, by omega, by omega⟩
  have HB := Lib.hid (And.intro hPl hap)
  have HM := Lib.hid (show M + 1 = T ∧ T ≤ 96 from ⟨hMT, by omega⟩)
  have sM : (M : Int) + 1 = (T : Int) := by omega
  have sW : wrap64 (T : Int) = (T : Int) := w64_id' _ (by omega) (by omega)
  clear hnw hL hcap hown hT hM hPl hap hz3 hMT
  go_wp2_with fail
  refine hfc.mono ?_
  rintro e w3 ⟨rfl, rfl⟩
  clear hfc
  go_wp2_with fail
  clear hz1 hz2 hM2 sM sW
  obtain ⟨g, hg⟩ : ∃ g, g = w2.heap.size := ⟨_, rfl⟩
  obtain ⟨w4, hw4⟩ : ∃ w4, w4 = w2.alloc (.cells Z 40) := ⟨_, rfl⟩
  have hPl := HB.out.1
  have hap := Lib.hid HB.out.2
  rw [← hg, ← hw4] at hPl ⊢
  rw [← hg] at hap
  have hBR : PlRel w pm bl p b bi t g T len (.int .i64 0) w4 := ⟨0, _, Nat.zero_le _, rfl, hPl⟩
  clear HB hg hw4 hPl
  go_loopw [13] (fun i wr => PlRel w pm bl p b bi t g T len i wr) (fun i wr => len - (intOf i).toNat)
  case atStart => exact hBR
  case round =>
    clear hBR
    obtain ⟨k, L, hk, rfl, hS⟩ := hrel
    rcases Nat.eq_or_lt_of_le hk with hk2 | hk2
    · have e0 : decide ((k : Int) < (len : Int)) = false := decide_eq_false (by omega)
      have e1 : decide (k < len) = false := decide_eq_false (by omega)
      have hIn : AsRel w pm bl p b bi t g T L zs.length (.int .i64 0) wr := ⟨0, Nat.zero_le _, rfl, hS⟩
      clear hS hk2 hk
      go_wp2_with fail
      go_loopw [20] (fun i wx => AsRel w pm bl p b bi t g T L zs.length i wx) (fun i wx => zs.length - (intOf i).toNat)
      case atStart => exact hIn
      case round =>
        clear hIn
        obtain ⟨j, hj, rfl, hS⟩ := hrel
        rcases Nat.eq_or_lt_of_le hj with hj2 | hj2
        · have f0 : decide ((j : Int) < (zs.length : Int)) = false := decide_eq_false (by omega)
          have f1 : decide (j < zs.length) = false := decide_eq_false (by omega)
          have han := answers_any wr
          have HS := Lib.hid hS
          clear hS hj2 hj
          go_wp2_with fail
          refine han.mono ?_
          rintro e w5 ⟨rfl, hC5⟩
          have F := Lib.hid (show True1 w (.returned (.bool true)) w5 from ⟨rfl, (HS.out.keep hC5).ch⟩)
          clear han hC5 HS
          go_wp2_with fail
          go_ret
          exact F.out
        · have f0 : decide ((j : Int) < (zs.length : Int)) = true := decide_eq_true (by omega)
          have f1 : decide (j < zs.length) = true := decide_eq_true hj2
          have i1 : (j : Int) < (zs.length : Int) := by omega
          obtain ⟨ad, hA2, hc0⟩ := (HA.out.2.1.chg hS.ch (HA.out.2.1.old (fun _ x => x.elim))).at_ j hj2
          subst hA2
          have KZ := Lib.hid (show ∀ W, Chg NoB wr W → W.cell? (ad.add j) = some (.int .i64 (zs.getD j 0)) from fun W hc => hc.cell hc0 (fun x => x))
          have hms := Lib.hid (show zs.length - ((j : Int) + 1).toNat < zs.length - (j : Int).toNat by omega)
          have F := Lib.hid (show ∀ W, Chg NoB wr W → AsRel w pm bl p b bi t g T L zs.length (.int .i64 ((j : Int) + 1)) W from fun W hc => ⟨j + 1, hj2, rfl, hS.keep hc⟩)
          generalize zs.getD j 0 = z at *
          rcases Classical.em (0 ≤ z ∧ z < 4096) with hz | hz
          · obtain ⟨P, rfl⟩ : ∃ P : Nat, z = (P : Int) := ⟨z.toNat, by omega⟩
            have hP4 : P < 4096 := by omega
            have h0 : decide ((0 : Int) ≤ (P : Int)) = true := decide_eq_true (by omega)
            have h1 : decide ((P : Int) < 4096) = true := decide_eq_true (by omega)
            have h2 : decide (P < 4096) = true := decide_eq_true hP4
            have i2 : (P : Int) < 4096 := by omega
            have hget := hS.get P hP4
            have HS := Lib.hid hS
            unfold eV at hget
            clear hS hz hj
            go_wp2_with fail
            refine hget.mono ?_
            rintro e w5 ⟨rfl, hC5⟩
            have cA : Chg NoB wr (w5.alloc (.cells #[.int .i64 (L P).1, .int .i64 (L P).2.1, .bool (L P).2.2] 33)) := hC5.alloc _
            have hz5 := KZ.out _ cA
            have bX : Blk (w5.alloc (.cells #[.int .i64 (L P).1, .int .i64 (L P).2.1, .bool (L P).2.2] 33)) w5.heap.size _ 33 := bnew w5 _
            have y0 : (w5.alloc (.cells #[.int .i64 (L P).1, .int .i64 (L P).2.1, .bool (L P).2.2] 33)).cell? ⟨w5.heap.size, 0, none⟩ = some (.int .i64 (L P).1) := by rw [bcell bX]; rfl
            have y1 : (w5.alloc (.cells #[.int .i64 (L P).1, .int .i64 (L P).2.1, .bool (L P).2.2] 33)).cell? ⟨w5.heap.size, 1, none⟩ = some (.int .i64 (L P).2.1) := by rw [bcell bX]; rfl
            have y2 : (w5.alloc (.cells #[.int .i64 (L P).1, .int .i64 (L P).2.1, .bool (L P).2.2] 33)).cell? ⟨w5.heap.size, 2, none⟩ = some (.bool (L P).2.2) := by rw [bcell bX]; rfl
            have hE5 : EArr (w5.alloc (.cells #[.int .i64 (L P).1, .int .i64 (L P).2.1, .bool (L P).2.2] 33)) g L := by
              obtain ⟨_, _, _, _, _, _, _, hE⟩ := HS.out
              exact hE.chg cA (fun x => x)
            obtain ⟨q0, q1, q2, _⟩ := hE5.at_ hP4
            generalize (L P).1 = kk at *
            generalize (L P).2.1 = kn at *
            generalize (L P).2.2 = kw at *
            clear hget hE5 bX HS KZ
            go_wp2_with fail
            go_quiet (fail)
            go_wp2_with fail
            exact ⟨F.out _ (cA.drewN _), hms.out⟩
          · have hget := hS.out z hz
            clear hS hj
            go_wp2_with fail
            refine hget.mono ?_
            rintro e w5 ⟨rfl, hC5⟩
            have cA : Chg NoB wr (w5.alloc (.cells #[.int .i64 0, .int .i64 0, .bool false] 33)) := hC5.alloc _
            have hz5 := KZ.out _ cA
            clear hget KZ
            rcases Classical.em (0 ≤ z) with hz0 | hz0
            · have h0 : decide ((0 : Int) ≤ z) = true := decide_eq_true hz0
              have h1 : decide (z < 4096) = false := decide_eq_false (by omega)
              clear hz hz0
              go_wp2_with fail
              go_quiet (fail)
              go_wp2_with fail
              exact ⟨F.out _ (cA.drewN _), hms.out⟩
            · have h0 : decide ((0 : Int) ≤ z) = false := decide_eq_false hz0
              clear hz hz0
              go_wp2_with fail
              go_quiet (fail)
              go_wp2_with fail
              exact ⟨F.out _ (cA.drewN _), hms.out⟩
    · have e0 : decide ((k : Int) < (len : Int)) = true := decide_eq_true (by omega)
      have e1 : decide (k < len) = true := decide_eq_true hk2
      have i1 : (k : Int) < (len : Int) := by omega
      obtain ⟨ad, hA, hat⟩ : ∃ ad, A = some ad ∧ TActAt w ad k (X k) := by
        rcases HA.out.1 with ⟨_, h0, _⟩ | ⟨ad, e, _, _, hat⟩
        · omega
        · exact ⟨ad, e, hat k hk2⟩
      subst hA
      obtain ⟨x0, x1, x2, x3⟩ := (hat.old hS.ch).four
      have hms := Lib.hid (show len - ((k : Int) + 1).toNat < len - (k : Int).toNat by omega)
      generalize X k = x at *
      obtain ⟨xp, xk, xn, xw⟩ := x
      dsimp only at x0 x1 x2 x3
      have bA : Blk (wr.alloc (.cells #[.int .i64 xp, .int .i64 xk, .int .i64 xn, .bool xw] 42)) wr.heap.size #[.int .i64 xp, .int .i64 xk, .int .i64 xn, .bool xw] 42 := bnew wr _
      have hst := hS.set hap.out xp (xk, xn, xw) #[.int .i64 xp, .int .i64 xk, .int .i64 xn, .bool xw] 42
      have y0 : (wr.alloc (.cells #[.int .i64 xp, .int .i64 xk, .int .i64 xn, .bool xw] 42)).cell? ⟨wr.heap.size, 0, none⟩ = some (.int .i64 xp) := by rw [bcell bA]; rfl
      have y1 : (wr.alloc (.cells #[.int .i64 xp, .int .i64 xk, .int .i64 xn, .bool xw] 42)).cell? ⟨wr.heap.size, 1, none⟩ = some (.int .i64 xk) := by rw [bcell bA]; rfl
      have y2 : (wr.alloc (.cells #[.int .i64 xp, .int .i64 xk, .int .i64 xn, .bool xw] 42)).cell? ⟨wr.heap.size, 2, none⟩ = some (.int .i64 xn) := by rw [bcell bA]; rfl
      have y3 : (wr.alloc (.cells #[.int .i64 xp, .int .i64 xk, .int .i64 xn, .bool xw] 42)).cell? ⟨wr.heap.size, 3, none⟩ = some (.bool xw) := by rw [bcell bA]; rfl
      have sg : g < wr.heap.size := by
        obtain ⟨_, _, _, _, _, _, _, hE⟩ := hS
        exact hE.lt
      have HS := Lib.hid (And.intro hS sg)
      clear hS hat bA sg
      go_upto_region 13 with fail
      go_upto_block 2 with fail
      refine hst.mono ?_
      rintro e w5 ⟨E, S5, B5, r5, ov5, s5, L5, rfl, hL5, hc5, hE5, hs5, bA5⟩
      have H5 := Lib.hid (And.intro hL5 (And.intro hc5 (And.intro hE5 (And.intro hs5 bA5))))
      have z0 : w5.cell? ⟨wr.heap.size, 0, none⟩ = some (.int .i64 xp) := by rw [bcell bA5]; rfl
      have z1 : w5.cell? ⟨wr.heap.size, 1, none⟩ = some (.int .i64 xk) := by rw [bcell bA5]; rfl
      have z2 : w5.cell? ⟨wr.heap.size, 2, none⟩ = some (.int .i64 xn) := by rw [bcell bA5]; rfl
      have z3 : w5.cell? ⟨wr.heap.size, 3, none⟩ = some (.bool xw) := by rw [bcell bA5]; rfl
      clear hst y0 y1 y2 y3 x0 x1 x2 x3 hL5 hc5 hE5 hs5 bA5
      go_upto_block 2 with fail
      go_cut [] (fun wx => PlMid w pm bl p b bi t g T wr.heap.size xp xk xn xw E wx)
      case first =>
        obtain ⟨hL5, hc5, hE5, hs5, bA5⟩ := H5.out
        rcases hs5 with ⟨ho, rfl, rfl⟩ | ⟨⟨r0, r1⟩, ⟨nk, rfl, rfl⟩ | ⟨ok, ⟨rfl, rfl⟩ | ⟨rfl, rfl, nz, hcap⟩⟩⟩
        · have F := Lib.hid (show PlMid w pm bl p b bi t g T wr.heap.size xp xk xn xw 1 w5 from ⟨L5, ⟨_, _, _, _, _, hL5, hc5, hE5⟩, bA5, fun h => by cases h⟩)
          clear hL5 hc5 hE5 bA5 H5 HS
          rcases Classical.em (xp < 0) with hx0 | hx0
          · have f0 : decide (xp < 0) = true := decide_eq_true hx0
            clear ho hx0
            go_wp2_with fail
            go_meet
            exact F.out
          · have f0 : decide (xp < 0) = false := decide_eq_false (by omega)
            have f1 : decide (4095 < xp) = true := decide_eq_true (by omega)
            clear ho hx0
            go_wp2_with fail
            go_meet
            exact F.out
        · have f0 : decide (xp < 0) = false := decide_eq_false (by omega)
          have f1 : decide (4095 < xp) = false := decide_eq_false (by omega)
          have hen := entry_any xk xn xw w5
          unfold EntPost at hen
          rw [decide_eq_false (show ¬ EntOk xk xn xw from nk)] at hen
          have H6 := Lib.hid (show PlSt w pm bl p b bi t g T L5 w5 ∧ Blk w5 wr.heap.size (actA xp xk xn xw) 42 from ⟨⟨_, _, _, _, _, hL5, hc5, hE5⟩, bA5⟩)
          clear hL5 hc5 hE5 bA5 H5 HS nk
          go_wp2_with fail
          refine hen.mono ?_
          rintro e w6 ⟨rfl, hC6⟩
          have F := Lib.hid (show PlMid w pm bl p b bi t g T wr.heap.size xp xk xn xw 8 w6 from ⟨L5, H6.out.1.keep hC6, hC6.blk (show Blk w5 _ _ _ from H6.out.2) (fun x => x), fun h => by cases h⟩)
          clear hen hC6 H6 z0 z1 z2 z3
          go_wp2_with fail
          go_meet
          exact F.out
        · obtain ⟨P, hP⟩ : ∃ P : Nat, xp = (P : Int) := ⟨xp.toNat, by omega⟩
          subst hP
          have hP4 : P < 4096 := by omega
          have f0 : decide ((P : Int) < 0) = false := decide_eq_false (by omega)
          have f1 : decide ((4095 : Int) < (P : Int)) = false := decide_eq_false (by omega)
          have i2 : (P : Int) < 4096 := by omega
          have hen := entry_any xk xn xw w5
          unfold EntPost at hen
          rw [decide_eq_true (show EntOk xk xn xw from ok)] at hen
          rw [Int.toNat_natCast] at hL5
          have H6 := Lib.hid (And.intro hL5 (And.intro hc5 (And.intro hE5 bA5)))
          clear hL5 hc5 hE5 bA5 H5 ok
          go_wp2_with fail
          refine hen.mono ?_
          rintro e w6 ⟨rfl, hC6⟩
          have hE6 := H6.out.2.2.1.chg hC6 (fun x => x)
          have hb6 := hC6.blk (show Blk w5 _ _ _ from H6.out.2.2.2) (fun x => x)
          have z0 : w6.cell? ⟨wr.heap.size, 0, none⟩ = some (.int .i64 (P : Int)) := by rw [bcell hb6]; rfl
          have z1 : w6.cell? ⟨wr.heap.size, 1, none⟩ = some (.int .i64 xk) := by rw [bcell hb6]; rfl
          have z2 : w6.cell? ⟨wr.heap.size, 2, none⟩ = some (.int .i64 xn) := by rw [bcell hb6]; rfl
          have z3 : w6.cell? ⟨wr.heap.size, 3, none⟩ = some (.bool xw) := by rw [bcell hb6]; rfl
          obtain ⟨q0, q1, q2, qf⟩ := hE6.at_ hP4
          have qf0 := qf (P * 3)
          have qf1 := qf (P * 3 + 1)
          have qf2 := qf (P * 3 + 2)
          have F := Lib.hid (show PlMid w pm bl p b bi t g T wr.heap.size (P : Int) xk xn xw 0 (((w6.setCell ⟨g, P * 3, none⟩ (.int .i64 xk)).setCell ⟨g, P * 3 + 1, none⟩ (.int .i64 xn)).setCell ⟨g, P * 3 + 2, none⟩ (.bool xw)) from by
            obtain ⟨m1, m2⟩ := hE6.set hP4 (xk, xn, xw)
            refine ⟨_, ⟨_, _, _, _, _, (H6.out.1.keep hC6).arr hE6 hap.out m2, H6.out.2.1, m1⟩, m2.blk (show Blk w6 _ _ _ from hb6) (fun x => ?_), fun h => by cases h⟩
            have h1 : wr.heap.size = g := x
            have := HS.out.2
            omega)
          clear hen hC6 hE6 hb6 H6 qf HS
          go_wp2_with fail
          go_meet
          exact F.out
        · have f0 : decide (xp < 0) = false := decide_eq_false (by omega)
          have f1 : decide (4095 < xp) = false := decide_eq_false (by omega)
          have hen := entry_any xk xn xw w5
          unfold EntPost at hen
          rw [decide_eq_true (show EntOk xk xn xw from ok)] at hen
          have H6 := Lib.hid (show PlSt w pm bl p b bi t g T L5 w5 ∧ Blk w5 wr.heap.size (actA xp xk xn xw) 42 from ⟨⟨_, _, _, _, _, hL5, hc5, hE5⟩, bA5⟩)
          have HCp := Lib.hid (And.intro (And.intro r0 r1) hcap)
          clear hL5 hc5 hE5 bA5 H5 HS ok hcap nz
          go_wp2_with fail
          refine hen.mono ?_
          rintro e w6 ⟨rfl, hC6⟩
          have F := Lib.hid (show PlMid w pm bl p b bi t g T wr.heap.size xp xk xn xw 4 w6 from ⟨L5, H6.out.1.keep hC6, hC6.blk (show Blk w5 _ _ _ from H6.out.2) (fun x => x), fun _ => HCp.out⟩)
          clear hen hC6 H6 z0 z1 z2 z3 HCp
          go_wp2_with fail
          go_meet
          exact F.out
      case rest =>
        obtain ⟨L2, hS2, bA2, hE4⟩ := hcut
        have sT : w.heap.size ≤ wc.heap.size := hS2.ch.size
        have hPB : PgRel wc L2 (.slice none 0 0) (.int .i64 0) wc := ⟨0, Nat.zero_le _, rfl, World.ownsRow_nil _ _ _ _, Chg.refl _ _⟩
        have HC := Lib.hid (And.intro hS2 (And.intro bA2 (And.intro hE4 sT)))
        clear hS2 bA2 hE4 sT H5 HS z0 z1 z2 z3
        generalize wr.heap.size = ab at *
        have HPB := Lib.hid hPB
        clear hPB
        go_wp2_with fail
        have hPB := HPB.out
        clear HPB
        go_loopw [16, 17] (fun sv i wr => PgRel wc L2 sv i wr) (fun sv i wr => 4096 - (intOf i).toNat)
        case atStart => exact hPB
        case round =>
          clear hPB
          obtain ⟨q, hq, rfl, hown, hCq⟩ := hrel
          rcases Nat.eq_or_lt_of_le hq with hq2 | hq2
          · have f0 : decide ((q : Int) < 4096) = false := decide_eq_false (by omega)
            have f1 : decide (q < 4096) = false := decide_eq_false (by omega)
            have hpq : pgs L2 q = pagesOf L2 := by rw [hq2]; rfl
            rw [hpq] at hown
            obtain ⟨As, cs, rfl⟩ := own_form (w0 := wc) hown
            obtain ⟨n, hn⟩ : ∃ n, n = (pagesOf L2).length := ⟨_, rfl⟩
            have hn4 : n ≤ 4096 := by rw [hn, ← hpq]; exact Nat.le_trans (pgs_len L2 q) hq
            rw [← hn] at hown ⊢
            have HQ := Lib.hid (And.intro hown (And.intro hCq (And.intro hn hn4)))
            clear hown hCq hn hpq hq2 hn4
            go_upto_if 111 with fail
            go_cut [] (fun wx => PgMid w wc pm bl p b bi t g T L2 (.slice As n cs) n wx)
            case first =>
              rcases Classical.em (E = 4) with hE | hE
              · subst hE
                obtain ⟨⟨r0, r1⟩, hcap⟩ := HC.out.2.2.1 rfl
                obtain ⟨P, hP⟩ : ∃ P : Nat, xp = (P : Int) := ⟨xp.toNat, by omega⟩
                subst hP
                rw [Int.toNat_natCast] at hcap
                have hP4 : P < 4096 := by omega
                obtain ⟨N5, hN5⟩ : ∃ N5, N5 = tablesN (pagesOf L2 ++ [P]) := ⟨_, rfl⟩
                have hTN : T < N5 := by
                  rw [hN5]
                  exact hcap _ (fun q => by rw [List.mem_append, List.mem_singleton]; exact ⟨fun x => x.elim .inr .inl, fun x => x.elim .inr .inl⟩)
                have dN : decide ((N5 : Int) ≤ (T : Int)) = false := decide_eq_false (by omega)
                have dN2 : decide (N5 ≤ T) = false := decide_eq_false (by omega)
                obtain ⟨SV, hSV⟩ : ∃ SV, SV = ownV (pagesOf L2) := ⟨_, rfl⟩
                have hown := HQ.out.1
                rw [← hSV] at hown
                have e1 : SV.length = n := by have := hown.1; simpa using this
                have e2 : As = none → cs = 0 := fun h => by
                  rcases hown.2 with ⟨h1, _⟩ | ⟨g', cap', cur, h1, _⟩
                  · injection h1
                  · rw [h] at h1; injection h1 with h2; cases h2
                have e3 : ∀ u ∈ SV, u.oneCell' = true := fun u hu => by
                  rw [hSV] at hu
                  unfold ownV at hu
                  obtain ⟨_, _, rfl⟩ := List.mem_map.mp hu
                  rfl
                have hz : ∀ w', Chg NoB wr w' → 0 < SV.length → ∃ ad, As = some ad ∧ ∀ j v, SV[j]? = some v → w'.cell? (ad.add j) = some v := fun w' hc hp => by
                  rcases hown.2 with ⟨h1, h2⟩ | ⟨g', cap', cur, h1, _⟩
                  · omega
                  · have h3 : As = some ⟨g', 0, none⟩ := by injection h1
                    exact ⟨_, h3, fun j v hj => hc.cell (hown.cells (g := g') (by rw [h3]; rfl) j v hj) (fun x => x)⟩
                have HXl := Lib.hid (show ∀ v, v = Value.slice As n cs → v = .slice As SV.length cs from fun v h => by rw [e1]; exact h)
                have hn4 := HQ.out.2.2.2
                have b1 : 0 + SV.length ≤ 9223372036854775807 := by omega
                have b2 : (0 + SV.length) * 8 ≤ 140737488355328 := by omega
                have hOne : ∀ u ∈ [Value.int .i64 (P : Int)], u.oneCell' = true := fun u hu => by rw [List.mem_singleton] at hu; rw [hu]; rfl
                have b3 : 0 + SV.length + [Value.int .i64 (P : Int)].length ≤ 9223372036854775807 := by simp; omega
                have b4 : (0 + SV.length + [Value.int .i64 (P : Int)].length) * 8 ≤ 140737488355328 := by simp; omega
                have FR : ∀ v4 w4, w4.ownsRow wr.heap.size 3 1 v4 (0 + SV.length + [Value.int .i64 (P : Int)].length) ([] ++ SV ++ [.int .i64 (P : Int)]) → ∃ A4 c4, v4 = .slice A4 (n + 1) c4 ∧ ∀ w5, Chg NoB w4 w5 → Calls Try.prog 13 #[.slice A4 (n + 1) c4] w5 (fun e w' => e = .returned (.int .i64 (N5 : Int)) ∧ Chg NoB w5 w') := fun v4 w4 h4 => by
                  have e5 : [] ++ SV ++ [Value.int .i64 (P : Int)] = ownV (pagesOf L2 ++ [P]) := by rw [hSV, List.nil_append]; unfold ownV; rw [List.map_append]; rfl
                  have e6 : 0 + SV.length + [Value.int .i64 (P : Int)].length = n + 1 := by simp; omega
                  rw [e5, e6] at h4
                  obtain ⟨A4, c4, rfl, hl4, hr4, _⟩ := own_rdI h4 (by omega)
                  refine ⟨A4, c4, rfl, fun w5 hc5 => ?_⟩
                  have := rtables_any A4 c4 (pagesOf L2 ++ [P]) w5 (hr4.chg hc5 (fun _ _ _ x => x)) (by rw [hl4]; omega) (fun q hq => by
                    rcases List.mem_append.mp hq with x | x
                    · unfold pagesOf at x
                      exact List.mem_range.mp (List.mem_filter.mp x).1
                    · rw [List.mem_singleton] at x; rw [x]; exact hP4)
                  unfold RtPost at this
                  rw [← hN5, hl4] at this
                  exact this
                have HFR := Lib.hid FR
                have bAr := HQ.out.2.1.blk (show Blk wc _ _ _ from HC.out.2.1) (fun x => x)
                have x0 : wr.cell? ⟨ab, 0, none⟩ = some (.int .i64 (P : Int)) := by rw [bcell bAr]; rfl
                have KE := Lib.hid (show ∀ W, Chg NoB wr W → W.cell? ⟨ab, 0, none⟩ = some (.int .i64 (P : Int)) from fun W hc => hc.cell x0 (fun x => x))
                have F := Lib.hid (show ∀ W, Chg NoB wr W → PgMid w wc pm bl p b bi t g T L2 (.slice As n cs) n W from fun W hc => ⟨(HC.out.1.keep HQ.out.2.1).keep hc, Own.own_chg HQ.out.1 hc (fun _ _ x => x)⟩)
                have HZ := Lib.hid (And.intro hz (And.intro e1 (And.intro e2 (And.intro e3 (And.intro b1 b2)))))
                clear hz e1 e2 e3 b1 b2 FR bAr hown hSV hTN hN5 hcap HQ HC hn4 r0 r1
                go_wp2_with fail
                go_region_held3 (fun w' => w'.cell? ⟨ab, 0, none⟩ = some (.int .i64 (P : Int))) (first | go_keep | assumption)
                  ((first
                    | (show if Region.wanted (Oper.mk (some 114) _ _ _ _ _) _ = true then _ else _; refine Step.step_append_src wr.heap.size rfl (.tmp 112) (.tmp 113) 34 3 rfl (.int .i64 0) 8 Try.underlying34 info_int rfl (.slice (some ⟨_, 0, none⟩) 0 0) 0 [] rfl ?_ ?_ SV As cs (HXl.out _ rfl) HZ.out.2.2.1 ?_ HZ.out.2.2.2.1 HZ.out.2.2.2.2.1 HZ.out.2.2.2.2.2 ?_; (· first | (simp; done) | (simp; omega)); (· repeat (first | exact Step.own_lit _ _ _ (Nat.le_refl _) | exact Step.lit_1 _ _ _ _ (Nat.le_refl _) | apply Step.own_alloc | apply Step.own_drew)); (· refine HZ.out.1 _ ?_; (repeat (first | exact Chg.refl _ _ | apply Chg.alloc | apply Chg.drew))); intro v3 w3 hown3 hC3; have hC3' : Chg NoB wr w3 := (by refine Step.chg_new (w0 := wr) ?_ ?_ hC3; (repeat (first | exact Chg.refl _ _ | apply Chg.alloc | apply Chg.drew)); first | (simp; done) | (simp; omega)); have x3 := KE.out w3 hC3')
                    | (show if Region.wanted (Oper.mk (some 118) _ _ _ _ _) _ = true then _ else _; refine Step.step_append_src wr.heap.size rfl (.tmp 114) (.tmp 117) 34 3 rfl (.int .i64 0) 8 Try.underlying34 info_int rfl v3 (0 + SV.length) ([] ++ SV) rfl ?_ ?_ [.int .i64 (P : Int)] _ 1 rfl (fun x => by cases x) ?_ hOne b3 b4 ?_; (· have hq := hC3'.size; first | (simp; done) | (simp; omega) | omega); (· repeat (first | exact hown3 | apply Step.own_alloc | apply Step.own_drew)); (· refine Step.one_src ?_; first | exact Step.cell_new _ _ _ | (refine hC3.cell ?_ ?_; (repeat (first | exact Step.cell_1 _ _ _ _ | exact Step.cell_2 _ _ _ _ | apply Step.cell_drew)); (simp [Value.ownBlock]; done))); intro v4 w4 hown4 hC4; have hC4' : Chg NoB wr w4 := (by refine Chg.trans ?_ hC4 ?_; (repeat (first | exact hC3' | apply Chg.alloc | apply Chg.drew)); exact (fun i hi x => by have := (Own.own_ge hown3 i x).1; omega)); have x4 := KE.out w4 hC4'; obtain ⟨A4, c4, rfl, hrt⟩ := HFR.out v4 w4 hown4)
                    | (go_at_call 13; ((with_reducible refine (hrt _ (Chg.refl _ _)).mono ?_); rintro e w6 ⟨rfl, hC6⟩; have hC6' := hC4'.trans hC6 (fun _ _ x => x); have x6 := KE.out w6 hC6'))))
                all_goals
                  have FF := Lib.hid (F.out _ hC6')
                  clear F hC6' hC6 hrt x6 x4 hC4 hC4' hown4 x3 hC3 hC3' hown3 KE HFR HZ HXl x0 hOne b3 b4
                  go_wp2_with fail
                  go_meet
                  exact FF.out
              · have dE : (E == 4) = false := by rw [beq_eq_false_iff_ne]; exact hE
                have F := Lib.hid (show PgMid w wc pm bl p b bi t g T L2 (.slice As n cs) n wr from ⟨HC.out.1.keep HQ.out.2.1, HQ.out.1⟩)
                clear hE HQ HC
                go_wp2_with fail
                go_meet
                exact F.out
            case rest =>
              obtain ⟨⟨S6, B6, r6, ov6, s6, hL6, hc6, hE6⟩, hrow6⟩ := hcut
              have htb := tables_any hL6.ti.tl hL6.ti.len
              obtain ⟨m, hm⟩ : ∃ m, m = s6.own.length := ⟨_, rfl⟩
              have hm1 : m ≤ 1024 := by rw [hm]; exact hL6.ti.len
              obtain ⟨ss, hss⟩ : ∃ ss, ss = sortN s6.own := ⟨_, rfl⟩
              unfold TabsTo at htb
              rw [← hm, ← hss] at htb
              obtain ⟨Fr, hFr⟩ : ∃ Fr, Fr = freeN S6 := ⟨_, rfl⟩
              have hTF : T = Fr + m := by rw [hFr, hm, ← hL6.cap, hc6]
              have hn := HQ.out.2.2.1
              have hn4 := HQ.out.2.2.2
              have H6 := Lib.hid (And.intro hL6 (And.intro hc6 (And.intro hE6 (And.intro hrow6 (And.intro hm (And.intro hss hFr))))))
              have HN := Lib.hid (And.intro hTF (And.intro hn (And.intro hn4 hm1)))
              clear hL6 hc6 hE6 hrow6 hm hss hFr HQ HC hTF hn hn4 hm1
              go_wp2_with fail
              refine htb.mono ?_
              rintro e w7 ⟨v7, rfl, hrow7, hC7⟩
              obtain ⟨gl, cl, rfl, hgl, _⟩ := own_pos hrow7 (by
                have h1 := List.length_pos_of_mem ((H6.out.1.ti.ok.mem r6).mpr ⟨0, 0, H6.out.1.ti.rt⟩)
                have h2 := H6.out.2.2.2.2.1
                omega)
              have hp7 := Own.own_chg H6.out.2.2.2.1 hC7 (fun _ _ x => x)
              obtain ⟨Ap, cp, hv, _, hrp, _⟩ := own_rdI hp7 (Nat.le_trans HN.out.2.2.1 (by decide))
              injection hv with hv1 hv2 hv3
              subst hv1 hv3
              have hrt := rtables_any As cs (pagesOf L2) w7 hrp (by rw [← HN.out.2.1]; exact Nat.le_trans HN.out.2.2.1 (by decide)) (fun q hq => by
                unfold pagesOf at hq
                exact List.mem_range.mp (List.mem_filter.mp hq).1)
              unfold RtPost at hrt
              rw [← HN.out.2.1, ← H6.out.1.count, ← H6.out.2.2.2.2.1] at hrt
              have H7 := Lib.hid (And.intro (H6.out.1.keep hC7) (And.intro (H6.out.2.2.1.chg hC7 (fun x => x)) hrow7))
              have dm : ((m : Int) != (m : Int)) = false := by rw [bne_eq_false_iff_eq]
              clear htb hC7 hrow7 hp7 hrp hv2
              dsimp only
              go_wp2_with fail
              refine hrt.mono ?_
              rintro e w8 ⟨rfl, hC8⟩
              have hL8 := H7.out.1.keep hC8
              have hfc := free_count hL8.ti.tl.pl
              unfold FreeTo at hfc
              rw [← H6.out.2.2.2.2.2.2] at hfc
              have H8 := Lib.hid (And.intro hL8 (And.intro (H7.out.2.1.chg hC8 (fun x => x)) (Own.own_chg H7.out.2.2 hC8 (fun _ _ x => x))))
              have hTF := HN.out.1
              have hTM := HM.out.2
              have sF : (T : Int) - (m : Int) = (Fr : Int) := by omega
              have dF : ((Fr : Int) != (Fr : Int)) = false := by rw [bne_eq_false_iff_eq]
              have hFr4 : Fr ≤ 96 := by omega
              have hms3 := hms
              clear hrt hC8 hL8 H7 hTF hTM
              go_wp2_with fail
              refine hfc.mono ?_
              rintro e w9 ⟨rfl, rfl⟩
              clear hfc
              have hIn : Chg NoB w8 w8 := Chg.refl _ _
              go_wp2_with fail
              go_loopw [19] (fun i wr => ∃ j : Nat, j ≤ m ∧ i = .int .i64 (j : Int) ∧ Chg NoB w8 wr) (fun i wr => m - (intOf i).toNat)
              case atStart => exact ⟨0, Nat.zero_le _, rfl, Chg.refl _ _⟩
              case round =>
                clear hIn
                obtain ⟨j, hj, rfl, hCj⟩ := hrel
                rcases Nat.eq_or_lt_of_le hj with hj2 | hj2
                · have f0 : decide ((j : Int) < (m : Int)) = false := decide_eq_false (by omega)
                  have f1 : decide (j < m) = false := decide_eq_false (by omega)
                  have F := Lib.hid (show PlRel w pm bl p b bi t g T len (.int .i64 ((k : Int) + 1)) wr from ⟨k + 1, L2, hk2, rfl, ⟨_, _, _, _, _, H8.out.1.keep hCj, H6.out.2.1, H8.out.2.1.chg hCj (fun x => x)⟩⟩)
                  clear hCj H8 H6
                  go_wp2_with fail
                  exact ⟨F.out, hms.out⟩
                · have f0 : decide ((j : Int) < (m : Int)) = true := decide_eq_true (by omega)
                  have f1 : decide (j < m) = true := decide_eq_true hj2
                  have i3 : (j : Int) < (m : Int) := by omega
                  have hLj := H8.out.1.keep hCj
                  have hrw := Own.own_chg H8.out.2.2 hCj (fun _ _ x => x)
                  have hsl : ss.length = m := by rw [H6.out.2.2.2.2.2.1, sorted_len]; exact H6.out.2.2.2.2.1.symm
                  obtain ⟨fj, hfj⟩ : ∃ fj, ss[j]? = some fj := ⟨_, List.getElem?_eq_getElem (by rw [hsl]; exact hj2)⟩
                  have hfo : fj ∈ s6.own := by
                    have h1 := List.mem_of_getElem? hfj
                    rw [H6.out.2.2.2.2.2.1, sorted_mem] at h1
                    exact h1
                  have c0 : wr.cell? ⟨gl, j, none⟩ = some (.int .i64 (fj : Int)) := by
                    rw [hrw.cellAt j (by rw [Nat.mul_one]; exact hj2)]
                    exact ownV_at hfj
                  have hOw := Lib.hid (show ∀ n2, Calls Try.prog 15 #[.pointer (some ⟨t, 0, none⟩), .int .i64 (fj : Int)] (wr.drewN n2) fun e w' => e = .returned (.bool true) ∧ w' = wr.drewN n2 from fun n2 => by
                    have h1 := owns_any (fj : Int) (hLj.keep ((Chg.refl NoB wr).drewN n2)).ti.tl hLj.ti.len
                    rw [decide_eq_true (show (fj : Int) ∈ ownI s6.own from List.mem_map.mpr ⟨fj, hfo, rfl⟩)] at h1
                    exact h1.mono fun _ _ x => ⟨x.1, x.2.symm⟩)
                  have hUs := Lib.hid (show ∀ n2, Calls Try.prog 18 #[.pointer (some ⟨p, 0, none⟩), .int .i64 (fj : Int)] (wr.drewN n2) fun e w' => e = .returned (.int .i64 2) ∧ w' = wr.drewN n2 from fun n2 => by
                    have h1 := l_use (fj : Int) (hLj.keep ((Chg.refl NoB wr).drewN n2)).ti.tl.pl
                    obtain ⟨u1, u2⟩ := hLj.ti.use fj hfo
                    have e : S6.use (fj : Int) = 2 := by unfold PS.use useD; rw [if_pos ⟨by omega, by omega⟩, Int.toNat_natCast, u2]
                    rw [e] at h1
                    exact h1.mono fun _ _ x => ⟨x.1, x.2.symm⟩)
                  have hms4 := Lib.hid (show m - ((j : Int) + 1).toNat < m - (j : Int).toNat by omega)
                  have F := Lib.hid (show ∀ W, Chg NoB wr W → ∃ j' : Nat, j' ≤ m ∧ Value.int .i64 ((j : Int) + 1) = .int .i64 (j' : Int) ∧ Chg NoB w8 W from fun W hc => ⟨j + 1, hj2, rfl, hCj.trans hc (fun _ _ x => x)⟩)
                  have hm1 := HN.out.2.2.2
                  rcases Nat.eq_zero_or_pos j with hj0 | hj0
                  · have f2 : decide ((0 : Int) < (j : Int)) = false := decide_eq_false (by omega)
                    have f3 : decide (0 < j) = false := decide_eq_false (by omega)
                    clear hCj hLj hrw hsl hfj hfo H6 H8 hj0
                    go_wp2_with fail
                    go_quiet (first | (go_at_call 15; exact Calls.quiet_of_same (hOw.out _)) | (go_at_call 18; exact Calls.quiet_of_same (hUs.out _)))
                    go_wp2_with fail
                    exact ⟨F.out _ ((Chg.refl _ _).drewN _), hms4.out⟩
                  · have f2 : decide ((0 : Int) < (j : Int)) = true := decide_eq_true (by omega)
                    have f3 : decide (0 < j) = true := decide_eq_true hj0
                    obtain ⟨jp, hjp⟩ : ∃ jp : Nat, j = jp + 1 := ⟨j - 1, by omega⟩
                    have i4 : jp < m := by omega
                    have i5 : (jp : Int) < (m : Int) := by omega
                    obtain ⟨fp, hfp⟩ : ∃ fp, ss[jp]? = some fp := ⟨_, List.getElem?_eq_getElem (by rw [hsl]; exact i4)⟩
                    have c1 : wr.cell? ⟨gl, jp, none⟩ = some (.int .i64 (fp : Int)) := by
                      rw [hrw.cellAt jp (by rw [Nat.mul_one]; exact i4)]
                      exact ownV_at hfp
                    have hlt : fp < fj := by
                      rw [H6.out.2.2.2.2.2.1] at hfp hfj
                      exact sorted_lt hLj.ti.ok.nodup (by omega) hfp hfj
                    have f4 : decide ((fj : Int) ≤ (fp : Int)) = false := decide_eq_false (by omega)
                    have f5 : decide (fj ≤ fp) = false := decide_eq_false (by omega)
                    have bb : -9223372036854775808 ≤ (j : Int) - 1 ∧ (j : Int) - 1 ≤ 9223372036854775807 := by omega
                    have bc : (j : Int) - 1 = (jp : Int) := by omega
                    have e4 : IntKind.i64.wrap ((j : Int) - 1) = (jp : Int) := (IntWalk.i64_in _ bb).trans bc
                    clear hCj hLj hrw hsl hfj hfo H6 H8 hj0 hjp bb bc hlt hfp
                    go_wp2_with fail
                    go_quiet (first | (go_at_call 15; exact Calls.quiet_of_same (hOw.out _)) | (go_at_call 18; exact Calls.quiet_of_same (hUs.out _)))
                    clear e4
                    go_wp2_with fail
                    exact ⟨F.out _ ((Chg.refl _ _).drewN _), hms4.out⟩
          · have f0 : decide ((q : Int) < 4096) = true := decide_eq_true (by omega)
            have f1 : decide (q < 4096) = true := decide_eq_true hq2
            have i2 : (q : Int) < 4096 := by omega
            obtain ⟨As, cs, rfl⟩ := own_form (w0 := wc) hown
            have hEq : EArr wr g L2 := by
              obtain ⟨_, _, _, _, _, _, _, hE⟩ := HC.out.1
              exact hE.chg hCq (fun x => x)
            obtain ⟨c0, _⟩ := hEq.at_ hq2
            have hdl : (pgs L2 q).length ≤ 4096 := Nat.le_trans (pgs_len L2 q) hq
            have hms2 := Lib.hid (show 4096 - ((q : Int) + 1).toNat < 4096 - (q : Int).toNat by omega)
            have hbase : wc.heap.size ≤ wr.heap.size := hCq.size
            by_cases hk0 : (L2 q).1 = 0
            · have f2 : ((L2 q).1 != 0) = false := by rw [hk0]; rfl
              have F := Lib.hid (show PgRel wc L2 (.slice As (pgs L2 q).length cs) (.int .i64 ((q : Int) + 1)) wr from ⟨q + 1, hq2, rfl, by rw [pgs_succ, if_neg (fun h => h hk0)]; exact hown, hCq⟩)
              generalize (L2 q).1 = kq at *
              clear hown hCq hEq HC hk0
              go_wp2_with fail
              exact ⟨F.out, hms2.out⟩
            · have f2 : ((L2 q).1 != 0) = true := by rw [bne_iff_ne]; exact hk0
              have fin : ∀ v' w3, w3.ownsRow wc.heap.size 3 1 v' ((pgs L2 q).length + 1) (ownV (pgs L2 q) ++ [.int .i64 (q : Int)]) → Chg (fun i => (Value.slice As (pgs L2 q).length cs).ownBlock = some i) wr w3 → PgRel wc L2 v' (.int .i64 ((q : Int) + 1)) w3 := fun v' w3 k1 k2 => by
                have hV : ownV (pgs L2 q ++ [q]) = ownV (pgs L2 q) ++ [.int .i64 (q : Int)] := by unfold ownV; rw [List.map_append]; rfl
                have hL : (pgs L2 q ++ [q]).length = (pgs L2 q).length + 1 := by rw [List.length_append]; rfl
                exact ⟨q + 1, hq2, rfl, by rw [pgs_succ, if_pos hk0, hV, hL]; exact k1, hCq.trans k2 (fun i hi x => by have := (Own.own_ge hown i x).1; omega)⟩
              have FI := Lib.hid fin
              have l1 : (pgs L2 q).length + 1 ≤ 9223372036854775807 := Nat.le_trans (Nat.succ_le_succ hdl) (by decide)
              have l2 : ((pgs L2 q).length + 1) * 8 ≤ 140737488355328 := Nat.le_trans (Nat.mul_le_mul_right 8 (Nat.succ_le_succ hdl)) (by decide)
              generalize (L2 q).1 = kq at *
              clear fin hCq hEq HC hk0 hdl
              go_wp2_with (first | (at_builtin; go_loud (refine Own.append_own3 (w := wr) (base := wc.heap.size) rfl (.tmp 106) (.tmp 108) 34 3 rfl (.int .i64 0) 8 Try.underlying34 info_int rfl (.slice As (pgs L2 q).length cs) (pgs L2 q).length (ownV (pgs L2 q)) (by rfl) hbase hown (.int .i64 (q : Int)) 3 (by rfl) rfl l1 l2 ?_); intro v' w3 hown' hCo hwh; have F := FI.out v' w3 hown' hCo) | go_in)
              exact ⟨F, hms2.out⟩
set_option maxRecDepth 100000 in
theorem treePlays (sects : Int) (A : Option Addr) (len cap : Nat) (X : Nat → TAct) (A2 : Option Addr) (zs : List Int) (cap2 : Nat) (w : World) (b0 : 0 ≤ sects) (b1 : sects ≤ 255) (hl : (len : Int) ≤ 9223372036854775807) (h : IsTActs w A len cap X) (hz : Rd w .i64 A2 zs) :
    Calls Try.prog 5 #[.int .u8 sects, .slice A len cap, .slice A2 zs.length cap2] w (True1 w) := by
  rcases Nat.lt_or_ge 60 len with h60 | h60
  · have d0 : decide ((60 : Int) < (len : Int)) = true := decide_eq_true (by omega)
    have d1 : decide (60 < len) = true := decide_eq_true h60
    clear h hz
    go_enter Try.func5, Try.ntmps5
    go_wp2_with fail
    refine (answers_any w).mono ?_
    rintro e w1 ⟨rfl, hC⟩
    go_wp2_with fail
    go_ret
    exact ⟨rfl, hC⟩
  · rcases Nat.lt_or_ge 60 zs.length with h61 | h61
    · have d0 : decide ((60 : Int) < (len : Int)) = false := decide_eq_false (by omega)
      have d1 : decide (60 < len) = false := decide_eq_false (by omega)
      have d2 : decide ((60 : Int) < (zs.length : Int)) = true := decide_eq_true (by omega)
      have d3 : decide (60 < zs.length) = true := decide_eq_true h61
      have hz1 := hz.1
      clear h hz
      go_enter Try.func5, Try.ntmps5
      go_wp2_with fail
      refine (answers_any w).mono ?_
      rintro e w1 ⟨rfl, hC⟩
      go_wp2_with fail
      go_ret
      exact ⟨rfl, hC⟩
    · exact treePlays_main sects A len cap X A2 zs cap2 w b0 b1 h60 h61 h hz
theorem u8c {n : Int} (h : (Lit.int .u8 n).wf = true) : 0 ≤ n ∧ n ≤ 255 := by
  have h2 : (decide (IntKind.u8.min ≤ n) && decide (n ≤ IntKind.u8.max)) = true := h
  have e1 : IntKind.u8.min = 0 := rfl
  have e2 : IntKind.u8.max = 255 := rfl
  rw [Bool.and_eq_true, decide_eq_true_iff, decide_eq_true_iff, e1, e2] at h2
  exact h2
theorem treePlays_row (s : Int) (a : Option Addr) (len cap : Nat) (X : Nat → TAct) (a2 : Option Addr) (len2 cap2 : Nat) (zs : List Int) (W : World) (w0 : (Lit.int .u8 s).wf = true) (w1 : IsTActs W a len cap X) (w2 : IsRow .i64 W a2 len2 cap2 zs) (y2 : len2 * 8 ≤ 140737488351232) :
    Calls Try.prog 5 #[.int .u8 s, .slice a len cap, .slice a2 len2 cap2] W fun e w' => e = .returned (.bool true) ∧ Below W.heap.size W w' := by
  have hl : (len : Int) ≤ 9223372036854775807 := by
    rcases w1 with ⟨_, h, _⟩ | ⟨_, _, h1, h2, _⟩
    · omega
    · unfold maxLen at h2; omega
  obtain ⟨hr, e, _⟩ := rd_of_row w2 (by omega)
  generalize zs.take len2 = ys at *
  subst e
  exact (treePlays s a len cap X a2 ys cap2 W (u8c w0).1 (u8c w0).2 hl w1 hr).mono fun _ _ h => h.row
end Go.Proofs.Ytimdojkhdneecaa.Tree
