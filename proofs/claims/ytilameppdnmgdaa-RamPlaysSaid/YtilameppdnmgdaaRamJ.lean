/- Memory of frames: RamPlays: the walk. -/
import Derived.Test.YtilameppdnmgdaaRamI
import Derived.Deep.DeepCutAuto
import Derived.Deep.CutBlock
namespace Go.Proofs.Ytilameppdnmgdaa.Ram
open Go.RowKit Go.Proofs.Ytilameppdnmgdaa.Hp
set_option linter.unusedVariables false
set_option linter.unusedSimpArgs false
def RpG (w : World) (p bl q z n N : Nat) (k : Nat) (i : Value) (wr : World) : Prop := ∃ m : Nat, m ≤ N ∧ i = .int .i64 m ∧ k = 200 - m ∧ ∃ B c, RpS w wr p bl q z n B c m
def RpE (w : World) (p bl q z n m a0 : Nat) (C : Array Value) (wx : World) : Prop := ∃ B c, RpS w wx p bl q z n B c (m + 1) ∧ Blk wx a0 C 56
theorem RpS.only {w wr w1 : World} {p bl q z n : Nat} {B : Nat → Nat → Int} {c : Nat → Nat} {m : Nat} (h : RpS w wr p bl q z n B c m) (hr : RRam w1 p bl n B (dead c)) (hc : Chg (· = bl) wr w1) : RpS w w1 p bl q z n B c (m + 1) := by
  obtain ⟨C2, b2, i2⟩ := h.ba
  obtain ⟨C, b1, i1⟩ := h.li
  obtain ⟨n1, n2, n3, n4, n5⟩ := h.ne
  obtain ⟨l1, l2, l3, l4⟩ := h.lo
  exact ⟨h.ch.trans hc (fun i hi x => by have : i = bl := x; omega), hr, ⟨C, hc.blk b1 n3, i1⟩, ⟨C2, hc.blk b2 n5, i2⟩, fun f => Nat.le_succ_of_le (h.le f), h.lo, h.ne⟩
theorem RpS.new {w w1 : World} {p bl n : Nat} {Z1 Z2 : Array Value} (hr : RRam w1 p bl n (fun _ _ => 0) (fun _ => false)) (h1 : w.heap.size ≤ p) (h2 : w.heap.size ≤ bl) (hC : Chg NoB w w1) (s1 : Z1.size = 65536) (e1 : ∀ i, i < 65536 → Z1[i]? = some (.int .u8 0)) (s2 : Z2.size = 1024) (e2 : ∀ i, i < 1024 → Z2[i]? = some (.int .i64 0)) :
    RpS w ((w1.alloc (.cells Z1 53)).alloc (.cells Z2 54)) p bl w1.heap.size (w1.heap.size + 1) n (fun _ _ => 0) (fun _ => 0) 0 := by
  have p1 := blt hr.st
  obtain ⟨C, hb, _⟩ := hr.xs
  have p2 := blt hb
  have hd : dead (fun _ => 0) = fun _ => false := by funext f; rfl
  have hs := hC.size
  have hc2 : Chg NoB w1 ((w1.alloc (.cells Z1 53)).alloc (.cells Z2 54)) := ((Chg.refl NoB w1).alloc _).alloc _
  refine ⟨hC.trans hc2 (fun _ _ x => x), by rw [hd]; exact hr.chg hc2 (fun x => x) (fun x => x), ⟨Z1, balloc (bnew w1 _) _, s1, fun f hf j hj => e1 _ (by omega)⟩, ⟨Z2, bnew' (by simp) _, s2, fun f hf => e2 f hf⟩, fun _ => Nat.le_refl _, ⟨h1, h2, hs, by omega⟩, ⟨by omega, by omega, by omega, by omega, by omega⟩⟩
theorem copyE_bad {n : Nat} {D : Nat → Bool} {B : Nat → Nat → Int} {f t : Int} (h : (f < 0 ∨ (n : Int) ≤ f) ∨ (t < 0 ∨ (n : Int) ≤ t)) : copyE n D f t = 1 ∧ CopyB n B D f t = B := by
  have h2 : Bad n f 0 64 ∨ Bad n t 0 64 := by unfold Bad; omega
  have h1 : copyE n D f t = 1 := by unfold copyE; rw [if_pos h2]
  exact ⟨h1, by unfold CopyB; rw [h1, if_neg (by decide)]⟩
theorem copyE_lost {n : Nat} {c : Nat → Nat} {B : Nat → Nat → Int} {f t : Nat} (hf : f < n) (ht : t < n) (h : 0 < c f + c t) : copyE n (dead c) (f : Int) (t : Int) = 7 ∧ CopyB n B (dead c) (f : Int) (t : Int) = B := by
  have h2 : ¬ (Bad n (f : Int) 0 64 ∨ Bad n (t : Int) 0 64) := by unfold Bad; omega
  have h1 : copyE n (dead c) (f : Int) (t : Int) = 7 := by
    unfold copyE
    rw [if_neg h2, Int.toNat_natCast, Int.toNat_natCast]
    by_cases e : 0 < c f
    · rw [if_pos (show dead c f = true from decide_eq_true e)]
    · rw [if_neg (show ¬ dead c f = true by unfold dead; rw [decide_eq_false e]; decide), if_pos (show dead c t = true from decide_eq_true (by omega))]
  exact ⟨h1, by unfold CopyB; rw [h1, if_neg (by decide)]⟩
theorem copyE_ok {n : Nat} {c : Nat → Nat} {B : Nat → Nat → Int} {f t : Nat} (hf : f < n) (ht : t < n) (h : ¬ 0 < c f + c t) : copyE n (dead c) (f : Int) (t : Int) = 0 ∧ CopyB n B (dead c) (f : Int) (t : Int) = upd B t 0 (rdL B f 0 64) := by
  have h2 : ¬ (Bad n (f : Int) 0 64 ∨ Bad n (t : Int) 0 64) := by unfold Bad; omega
  have e1 : ¬ dead c f = true := by unfold dead; rw [decide_eq_false (by omega)]; decide
  have e2 : ¬ dead c t = true := by unfold dead; rw [decide_eq_false (by omega)]; decide
  have h1 : copyE n (dead c) (f : Int) (t : Int) = 0 := by
    unfold copyE
    rw [if_neg h2, Int.toNat_natCast, Int.toNat_natCast, if_neg e1, if_neg e2]
  exact ⟨h1, by unfold CopyB; rw [h1, if_pos rfl, Int.toNat_natCast, Int.toNat_natCast]⟩
theorem finF {w wx : World} {p bl q z n a0 m : Nat} {B : Nat → Nat → Int} {c : Nat → Nat} {u0 u2 u3 u4 : Value} {xf : Int} (h : RpS w wx p bl q z n B c m) (b : Blk wx a0 #[u0, .int .i64 xf, u2, u3, u4] 56) (hT : xf < 0 ∨ (n : Int) ≤ xf) :
    Calls Try.prog 32 #[.pointer (some ⟨p, 0, none⟩), .int .i64 xf] wx (fun e w' => e = .returned (.bool false) ∧ wx = w') ∧ wx.cell? ⟨a0, 1, none⟩ = some (.int .i64 xf) := by
  have hc := bad_any p bl n B (dead c) xf wx h.ram
  have hib : isBad n (dead c) xf = false := by
    unfold isBad
    rcases hT with h | h
    · rw [decide_eq_false (by omega)]; rfl
    · rw [decide_eq_false (p := xf < (n : Int)) (by omega)]; simp
  rw [hib] at hc
  exact ⟨hc, by rw [bcell b]; rfl⟩
theorem finT {w wx : World} {p bl q z n a0 m : Nat} {B : Nat → Nat → Int} {c : Nat → Nat} {u0 u2 u3 u4 : Value} {f : Nat} (h : RpS w wx p bl q z n B c m) (b : Blk wx a0 #[u0, .int .i64 (f : Int), u2, u3, u4] 56) (hf : f < n) :
    Calls Try.prog 32 #[.pointer (some ⟨p, 0, none⟩), .int .i64 (f : Int)] wx (fun e w' => e = .returned (.bool (decide ((0 : Int) < (c f : Int)))) ∧ wx = w') ∧ wx.cell? ⟨a0, 1, none⟩ = some (.int .i64 (f : Int)) ∧ wx.cell? ⟨z, f, none⟩ = some (.int .i64 (c f)) := by
  have hc := bad_any p bl n B (dead c) f wx h.ram
  have hib : isBad n (dead c) f = decide ((0 : Int) < (c f : Int)) := by
    unfold isBad dead
    rw [decide_eq_true (by omega), decide_eq_true (p := (f : Int) < (n : Int)) (by omega), Int.toNat_natCast]
    simp
  rw [hib] at hc
  exact ⟨hc, by rw [bcell b]; rfl, (h.cnt f (by have := h.ram.le; omega)).1⟩
set_option maxRecDepth 100000 in
set_option maxHeartbeats 100000000 in
theorem ramPlays (fr : Int) (A : Option Addr) (N c : Nat) (X : Nat → ActV) (w : World) (hX : IsActs w A N c X) : Calls Try.prog 9 #[.int .i64 fr, .slice A N c] w (RetB true w) := by
  by_cases hl : 80 < N
  · clear hX
    go_enter Try.func9, Try.ntmps9
    go_wp2_with fail
    refine (answers _).mono ?_
    rintro e w1 ⟨rfl, hC⟩
    have fin : RetB true w (.returned (.bool true)) w1 := ⟨rfl, hC⟩
    clear hC
    go_wp2_with fail
    go_ret
    exact fin
  · have hn : N ≤ 80 := by omega
    have HR := Lib.hid hX
    clear hX hl
    have hcut : ∀ w1, Calls Try.prog 21 #[.int .i64 fr, .int .i64 0, .int .i64 1024] w1 fun e w' => e = .returned (.int .i64 (clampF fr)) ∧ w1 = w' := fun w1 => Runs.cut_1024 fr w1
    go_enter Try.func9, Try.ntmps9
    go_wp2_with fail
    refine (new_any fr w).mono ?_
    rintro e w1 ⟨p, bl, rfl, hr, l1, l2, hC⟩
    have hct := hcut w1
    clear hcut
    generalize clampF fr = n at *
    have H1 := Lib.hid (And.intro hr (And.intro l1 (And.intro l2 hC)))
    clear hr l1 l2 hC
    go_wp2_with fail
    refine hct.mono ?_
    rintro e w2 ⟨rfl, rfl⟩
    clear hct
    go_wp2_with fail
    refine (answers _).mono ?_
    rintro e w2 ⟨rfl, hC2⟩
    have hr2 := H1.out.1.chg hC2 (fun x => x) (fun x => x)
    have hf2 := frames_any p bl n _ _ w2 hr2
    have H2 := Lib.hid (And.intro hr2 (H1.out.2.2.2.trans hC2 (fun _ _ x => x)))
    clear hC2 hr2
    go_wp2_with fail
    refine hf2.mono ?_
    rintro e w3 ⟨rfl, rfl⟩
    clear hf2
    obtain ⟨Z1, hz1, s1, zn1, e1⟩ := zero_L
    obtain ⟨Z2, hz2, s2, zn2, e2⟩ := zero_B
    have hS := RpS.new H2.out.1 H1.out.2.1 H1.out.2.2.1 H2.out.2 s1 e1 s2 e2
    have hB : RpG w p bl w2.heap.size (w2.heap.size + 1) n N 200 (.int .i64 0) ((w2.alloc (.cells Z1 53)).alloc (.cells Z2 54)) := ⟨0, by omega, rfl, rfl, _, _, hS⟩
    have HB := Lib.hid hB
    clear s1 s2 e1 e2 hS hB H1 H2
    go_wp2_with fail
    clear hz1 hz2
    generalize ((w2.alloc (.cells Z1 53)).alloc (.cells Z2 54)) = w4 at *
    generalize hq : w2.heap.size = q at *
    generalize hz : q + 1 = z at *
    clear hq hz
    go_loopg [9] 200 (fun k i wr => RpG w p bl q z n N k i wr)
    case atStart => exact HB.out
    case round =>
      clear HB
      obtain ⟨m, hm, rfl, hgk, B, c, hS⟩ := hrel
      by_cases hlt : m < N
      · obtain ⟨ad, rfl, hx⟩ : ∃ ad, A = some ad ∧ ActAt w ad m (X m) := by
          rcases HR.out with ⟨_, h0, _⟩ | ⟨ad, e, _, _, hall⟩
          · omega
          · exact ⟨ad, e, hall m hlt⟩
        obtain ⟨z0, z1, z2, z3, z4⟩ := hx.five
        have x0 := hS.ch.cell z0 (fun x => x)
        have x1 := hS.ch.cell z1 (fun x => x)
        have x2 := hS.ch.cell z2 (fun x => x)
        have x3 := hS.ch.cell z3 (fun x => x)
        have x4 := hS.ch.cell z4 (fun x => x)
        have hrow := hx.2
        generalize X m = x at *
        obtain ⟨xw, xf, xa, xn, xA, xl, xc, xz⟩ := x
        dsimp only at x0 x1 x2 x3 x4 hrow
        have H := Lib.hid (And.intro hS hrow)
        clear hS hrow hx z0 z1 z2 z3 z4 HR
        go_upto_region 13 with fail
        have hSW := H.out.1.keep ((Chg.refl NoB wr).alloc (.cells #[.int .i64 xw, .int .i64 xf, .int .i64 xa, .int .i64 xn, .slice xA xl xc] 56))
        have bA : Blk (wr.alloc (.cells #[.int .i64 xw, .int .i64 xf, .int .i64 xa, .int .i64 xn, .slice xA xl xc] 56)) wr.heap.size #[.int .i64 xw, .int .i64 xf, .int .i64 xa, .int .i64 xn, .slice xA xl xc] 56 := bnew wr _
        have hfr : wr.heap.size ≠ bl ∧ wr.heap.size ≠ q ∧ wr.heap.size ≠ z := by
          obtain ⟨C1, b1, _⟩ := H.out.1.li
          obtain ⟨C2, b2, _⟩ := H.out.1.ba
          obtain ⟨C3, b3, _⟩ := H.out.1.ram.xs
          have := blt b1
          have := blt b2
          have := blt b3
          omega
        generalize wr.alloc (.cells #[.int .i64 xw, .int .i64 xf, .int .i64 xa, .int .i64 xn, .slice xA xl xc] 56) = W at *
        generalize wr.heap.size = a0 at *
        have y0 : W.cell? ⟨a0, 0, none⟩ = some (.int .i64 xw) := by rw [bcell bA]; rfl
        have y1 : W.cell? ⟨a0, 1, none⟩ = some (.int .i64 xf) := by rw [bcell bA]; rfl
        have y2 : W.cell? ⟨a0, 2, none⟩ = some (.int .i64 xa) := by rw [bcell bA]; rfl
        have y3 : W.cell? ⟨a0, 3, none⟩ = some (.int .i64 xn) := by rw [bcell bA]; rfl
        have y4 : W.cell? ⟨a0, 4, none⟩ = some (.slice xA xl xc) := by rw [bcell bA]; rfl
        have hnx : n ≤ 1024 := hSW.ram.le
        have hcm : ∀ f, c f ≤ 80 := fun f => by have := hSW.le f; omega
        have HS := Lib.hid (And.intro hSW (And.intro bA (And.intro hfr (And.intro H.out.2 (And.intro H.out.1.ch hcm)))))
        clear hSW bA hfr H x0 x1 x2 x3 x4 hcm
        go_cut [11] from 44 to 52 (fun v wx => v = .bool (decide (0 ≤ xf ∧ xf < (n : Int))) ∧ W = wx)
        case first =>
          by_cases h0 : 0 ≤ xf
          · have d0 : decide (0 ≤ xf) = true := decide_eq_true h0
            by_cases h1 : xf < (n : Int)
            · have d1 : decide (xf < (n : Int)) = true := decide_eq_true h1
              have R := Lib.hid (And.intro h0 h1)
              clear h0 h1
              go_wp2_with fail
              go_meet
              exact ⟨congrArg Value.bool (decide_eq_true R.out).symm, rfl⟩
            · have d1 : decide (xf < (n : Int)) = false := decide_eq_false h1
              have R := Lib.hid h1
              clear h0 h1
              go_wp2_with fail
              go_meet
              exact ⟨congrArg Value.bool (decide_eq_false (fun x => by have := R.out; omega)).symm, rfl⟩
          · have d0 : decide (0 ≤ xf) = false := decide_eq_false h0
            have R := Lib.hid h0
            clear h0
            go_wp2_with fail
            go_meet
            exact ⟨congrArg Value.bool (decide_eq_false (fun x => by have := R.out; omega)).symm, rfl⟩
        case rest =>
          obtain ⟨rfl, rfl⟩ := hcut
          by_cases hT : 0 ≤ xf ∧ xf < (n : Int)
          · rw [decide_eq_true hT]
            obtain ⟨f, rfl⟩ : ∃ f : Nat, xf = f := ⟨xf.toNat, by omega⟩
            have hf : f < n := by omega
            have hf2 : f < 1024 := by omega
            obtain ⟨cz, fz⟩ := HS.out.1.cnt f hf2
            have hcm : c f ≤ 80 := HS.out.2.2.2.2.2 f
            clear hT
            go_upto_region 17 with fail
            go_cut [13] from 56 to 66 (fun v wx => v = .bool (decide (0 ≤ xa ∧ xa ≤ 64)) ∧ W = wx)
            case first =>
              by_cases h0 : 0 ≤ xa
              · have d0 : decide (0 ≤ xa) = true := decide_eq_true h0
                by_cases h1 : xa ≤ 64
                · have d1 : decide (xa ≤ 64) = true := decide_eq_true h1
                  have R := Lib.hid (And.intro h0 h1)
                  clear h0 h1
                  go_wp2_with fail
                  go_meet
                  exact ⟨congrArg Value.bool (decide_eq_true R.out).symm, rfl⟩
                · have d1 : decide (xa ≤ 64) = false := decide_eq_false h1
                  have R := Lib.hid h1
                  clear h0 h1
                  go_wp2_with fail
                  go_meet
                  exact ⟨congrArg Value.bool (decide_eq_false (fun x => by have := R.out; omega)).symm, rfl⟩
              · have d0 : decide (0 ≤ xa) = false := decide_eq_false h0
                have R := Lib.hid h0
                clear h0
                go_wp2_with fail
                go_meet
                exact ⟨congrArg Value.bool (decide_eq_false (fun x => by have := R.out; omega)).symm, rfl⟩
            case rest =>
              obtain ⟨rfl, rfl⟩ := hcut
              go_upto_block 2 with fail
              by_cases hw0 : xw = 0
              · subst hw0
                as_aux_lemma =>
                  go_upto_region 21 with fail
                  go_cut [85] from 71 to 85 (fun v wx => v = .bool (decide (Bad n f xa xn)) ∧ W = wx)
                  case first =>
                    by_cases hI : 0 ≤ xa ∧ xa ≤ 64
                    · have dI : decide (0 ≤ xa ∧ xa ≤ 64) = true := decide_eq_true hI
                      have i2 : wrap64 (64 - xa) = 64 - xa := by unfold wrap64; omega
                      have i3 : IntKind.i64.wrap (64 - xa) = 64 - xa := IntWalk.i64_in _ ⟨by omega, by omega⟩
                      by_cases hn0 : xn < 0
                      · have d2 : decide (xn < 0) = true := decide_eq_true hn0
                        have R := Lib.hid (show (Bad n f xa xn) by first | omega | (unfold Bad; omega))
                        clear hI hn0
                        go_wp2_with fail
                        go_meet
                        exact ⟨congrArg Value.bool (decide_eq_true R.out).symm, rfl⟩
                      · have d2 : decide (xn < 0) = false := decide_eq_false hn0
                        by_cases hn1 : 64 - xa < xn
                        · have d3 : decide (64 - xa < xn) = true := decide_eq_true hn1
                          have R := Lib.hid (show (Bad n f xa xn) by first | omega | (unfold Bad; omega))
                          clear hI hn1 hn0
                          go_wp2_with fail
                          go_meet
                          exact ⟨congrArg Value.bool (decide_eq_true R.out).symm, rfl⟩
                        · have d3 : decide (64 - xa < xn) = false := decide_eq_false hn1
                          have R := Lib.hid (show ¬ (Bad n f xa xn) by first | omega | (unfold Bad; omega))
                          clear hI hn1 hn0
                          go_wp2_with fail
                          go_meet
                          exact ⟨congrArg Value.bool (decide_eq_false R.out).symm, rfl⟩
                    · have dI : decide (0 ≤ xa ∧ xa ≤ 64) = false := decide_eq_false hI
                      have R := Lib.hid (show (Bad n f xa xn) by first | omega | (unfold Bad; omega))
                      clear hI
                      go_wp2_with fail
                      go_meet
                      exact ⟨congrArg Value.bool (decide_eq_true R.out).symm, rfl⟩
                  case rest =>
                    obtain ⟨rfl, rfl⟩ := hcut
                    by_cases hb : Bad n f xa xn
                    · rw [decide_eq_true hb]
                      have hc := read_bad p bl n B (dead c) f xa xn W HS.out.1.ram hb
                      clear hb
                      go_wp2_with fail
                      refine hc.mono ?_
                      rintro e w5 ⟨rfl, rfl⟩
                      clear hc
                      go_wp2_with fail
                      go_quiet (fail)
                      have hcq := (Chg.refl NoB W).drewN nq
                      have hS9 := (HS.out.1.keep hcq).up
                      have b9 := hcq.blk (show Blk W a0 _ _ from HS.out.2.1) (fun x => x)
                      clear hcq
                      have F := Lib.hid (show RpG w p bl q z n N (200 - (m + 1)) (.int .i64 ((m : Int) + 1)) _ from ⟨m + 1, by omega, rfl, rfl, B, c, hS9⟩)
                      obtain ⟨hbd, v1, cz9⟩ := finT (B := B) (c := c) hS9 b9 hf
                      clear hS9 b9
                      go_wp2_with (first | ((with_reducible refine hbd.mono ?_); rintro e w9 ⟨rfl, rfl⟩) | go_in)
                      go_roundg (200 - (m + 1))
                      case measure => omega
                      case rel => exact F.out
                    · rw [decide_eq_false hb]
                      obtain ⟨a, rfl⟩ : ∃ a : Nat, xa = a := ⟨xa.toNat, by unfold Bad at hb; omega⟩
                      obtain ⟨k, rfl⟩ : ∃ k : Nat, xn = k := ⟨xn.toNat, by unfold Bad at hb; omega⟩
                      have hak : a + k ≤ 64 := by unfold Bad at hb; omega
                      clear hb
                      by_cases hd : 0 < c f
                      · have hc := read_lost p bl n B (dead c) f a k W HS.out.1.ram hf hak (decide_eq_true hd)
                        have d1 : decide ((0 : Int) < (c f : Int)) = true := decide_eq_true (by omega)
                        have d1n : decide (0 < c f) = true := decide_eq_true (by omega)
                        clear hd
                        go_wp2_with fail
                        refine hc.mono ?_
                        rintro e w5 ⟨rfl, rfl⟩
                        clear hc
                        go_wp2_with fail
                        go_quiet (fail)
                        have hcq := (Chg.refl NoB W).drewN nq
                        have hS9 := (HS.out.1.keep hcq).up
                        have b9 := hcq.blk (show Blk W a0 _ _ from HS.out.2.1) (fun x => x)
                        clear hcq
                        have F := Lib.hid (show RpG w p bl q z n N (200 - (m + 1)) (.int .i64 ((m : Int) + 1)) _ from ⟨m + 1, by omega, rfl, rfl, B, c, hS9⟩)
                        obtain ⟨hbd, v1, cz9⟩ := finT (B := B) (c := c) hS9 b9 hf
                        clear hS9 b9
                        go_wp2_with (first | ((with_reducible refine hbd.mono ?_); rintro e w9 ⟨rfl, rfl⟩) | go_in)
                        go_roundg (200 - (m + 1))
                        case measure => omega
                        case rel => exact F.out
                      · have hc := read_ok p bl n B (dead c) f a k W HS.out.1.ram hf hak (decide_eq_false hd)
                        have d1 : decide ((0 : Int) < (c f : Int)) = false := decide_eq_false (by omega)
                        have d1n : decide (0 < c f) = false := decide_eq_false (by omega)
                        clear hd
                        go_wp2_with fail
                        refine hc.mono ?_
                        rintro e w5 ⟨v, rfl, hown, hC5⟩
                        clear hc
                        obtain ⟨A5, c5, rfl, hl5, _, hr5, _⟩ := own_rd hown (by rw [rdL_len]; omega)
                        rw [rdL_len]
                        have hS5 := HS.out.1.keep hC5
                        have b5 := hC5.blk (show Blk W a0 _ _ from HS.out.2.1) (fun x => x)
                        have v2 : w5.cell? ⟨a0, 2, none⟩ = some (.int .i64 (a : Int)) := hC5.cell y2 (fun x => x)
                        have v3 : w5.cell? ⟨a0, 3, none⟩ = some (.int .i64 (k : Int)) := hC5.cell y3 (fun x => x)
                        obtain ⟨i8, hi8, _, hsz8, _⟩ := info_parts (show (Try.prog.info? 5).map (fun i => (i.zero, i.size, i.bytes)) = some (some (.int .u8 0), 1, 1) by kernel_rfl)
                        have hsl : ∀ w1 : World, (Instr.sliceAt 52 (.pointer (some ⟨q, f * 64, none⟩)) (some (.int .i64 a)) (some (.int .i64 ((a : Int) + k))) none).run Try.prog w1 = .ok (.slice (some (if 64 = a then ⟨q, f * 64, none⟩ else (⟨q, f * 64 + a, none⟩ : Addr))) k (64 - a)) w1 := by
                          intro w1
                          rw [run_sliceAt_lh w1 52 _ Try.underlying52 64 (by kernel_rfl) i8 hi8 hsz8 .i64 .i64 a _ (by omega) (by omega) (by omega)]
                          have e1 : ((a : Int) + k).toNat = a + k := by omega
                          rw [e1, Int.toNat_natCast, Nat.add_sub_cancel_left, Hp.add_lit']
                        have hq : ∀ n', Calls Try.prog 16 #[.slice A5 k c5, .slice (some (if 64 = a then ⟨q, f * 64, none⟩ else (⟨q, f * 64 + a, none⟩ : Addr))) k (64 - a)] (w5.drewN n') fun e w' => e = .returned (.bool true) ∧ ∃ n2, w' = (w5.drewN n').drewN n2 := fun n' => by
                          have h2 := (hS5.keep ((Chg.refl NoB w5).drewN n')).rd f a k hf2 hak (if 64 = a then ⟨q, f * 64, none⟩ else (⟨q, f * 64 + a, none⟩ : Addr)) (fun hp => by rw [if_neg (by omega)])
                          have := same_q A5 _ c5 (64 - a) (rdL B f a k) (w5.drewN n') (hr5.chg ((Chg.refl NoB w5).drewN n') (fun _ _ _ x => x)) h2
                          rwa [rdL_len] at this
                        have HQ := Lib.hid (And.intro hq (And.intro hS5 b5))
                        generalize (if 64 = a then (⟨q, f * 64, none⟩ : Addr) else (⟨q, f * 64 + a, none⟩ : Addr)) = sa at *
                        clear hq hS5 b5 hown hC5 hr5 hl5 cz fz y0 y1 y2 y3 y4 hi8 hsz8
                        have j1 : (a : Int) ≤ (a : Int) + k := by omega
                        have j2 : (a : Int) + k ≤ 64 := by omega
                        have j3 : (0 : Int) ≤ (a : Int) := by omega
                        have j4 : (f : Int) < 1024 := by omega
                        have i1 : IntKind.i64.wrap ((a : Int) + k) = a + k := IntWalk.i64_in _ ⟨by omega, by omega⟩
                        have i2 : wrap64 ((a : Int) + k) = a + k := by clear i1; unfold wrap64; omega
                        go_wp2_with fail
                        go_quiet ((go_at_call 16; exact Calls.quiet_of (HQ.out.1 _)))
                        have hcq := (Chg.refl NoB w5).drewN nq
                        have hS9 := (HQ.out.2.1.keep hcq).up
                        have b9 := hcq.blk (show Blk w5 a0 _ _ from HQ.out.2.2) (fun x => x)
                        clear hcq
                        have F := Lib.hid (show RpG w p bl q z n N (200 - (m + 1)) (.int .i64 ((m : Int) + 1)) _ from ⟨m + 1, by omega, rfl, rfl, B, c, hS9⟩)
                        obtain ⟨hbd, v1, cz9⟩ := finT (B := B) (c := c) hS9 b9 hf
                        clear hS9 b9
                        go_wp2_with (first | ((with_reducible refine hbd.mono ?_); rintro e w9 ⟨rfl, rfl⟩) | go_in)
                        go_roundg (200 - (m + 1))
                        case measure => omega
                        case rel => exact F.out
              · have e0 : (xw == 0) = false := beq_eq_false_iff_ne.mpr hw0
                by_cases hw1 : xw = 1
                · subst hw1
                  as_aux_lemma =>
                    go_upto_region 29 with fail
                    go_cut [144] from 134 to 144 (fun v wx => v = .bool (decide (Bad n f xa (xl : Int))) ∧ W = wx)
                    case first =>
                      by_cases hI : 0 ≤ xa ∧ xa ≤ 64
                      · have dI : decide (0 ≤ xa ∧ xa ≤ 64) = true := decide_eq_true hI
                        have i2 : wrap64 (64 - xa) = 64 - xa := by unfold wrap64; omega
                        have i3 : IntKind.i64.wrap (64 - xa) = 64 - xa := IntWalk.i64_in _ ⟨by omega, by omega⟩
                        by_cases hn1 : 64 - xa < (xl : Int)
                        · have d3 : decide (64 - xa < (xl : Int)) = true := decide_eq_true hn1
                          have R := Lib.hid (show (Bad n f xa (xl : Int)) by first | omega | (unfold Bad; omega))
                          clear hI hn1
                          go_wp2_with fail
                          go_meet
                          exact ⟨congrArg Value.bool (decide_eq_true R.out).symm, rfl⟩
                        · have d3 : decide (64 - xa < (xl : Int)) = false := decide_eq_false hn1
                          have R := Lib.hid (show ¬ (Bad n f xa (xl : Int)) by first | omega | (unfold Bad; omega))
                          clear hI hn1
                          go_wp2_with fail
                          go_meet
                          exact ⟨congrArg Value.bool (decide_eq_false R.out).symm, rfl⟩
                      · have dI : decide (0 ≤ xa ∧ xa ≤ 64) = false := decide_eq_false hI
                        have R := Lib.hid (show (Bad n f xa (xl : Int)) by first | omega | (unfold Bad; omega))
                        clear hI
                        go_wp2_with fail
                        go_meet
                        exact ⟨congrArg Value.bool (decide_eq_true R.out).symm, rfl⟩
                    case rest =>
                      obtain ⟨rfl, rfl⟩ := hcut
                      by_cases hb : Bad n f xa (xl : Int)
                      · rw [decide_eq_true hb]
                        have hc := write_bad p bl n B (dead c) f xa xA xc xl W HS.out.1.ram hb
                        clear hb
                        go_wp2_with fail
                        refine hc.mono ?_
                        rintro e w5 ⟨rfl, hr5, hC5⟩
                        have hS9 := HS.out.1.only hr5 hC5
                        have b9 := hC5.blk (show Blk W a0 _ _ from HS.out.2.1) HS.out.2.2.1.1
                        have F := Lib.hid (show RpG w p bl q z n N (200 - (m + 1)) (.int .i64 ((m : Int) + 1)) w5 from ⟨m + 1, by omega, rfl, rfl, B, c, hS9⟩)
                        obtain ⟨hbd, v1, cz9⟩ := finT (B := B) (c := c) hS9 b9 hf
                        clear hS9 b9 hc hr5 hC5
                        go_wp2_with (first | ((with_reducible refine hbd.mono ?_); rintro e w9 ⟨rfl, rfl⟩) | go_in)
                        go_roundg (200 - (m + 1))
                        case measure => omega
                        case rel => exact F.out
                      · rw [decide_eq_false hb]
                        obtain ⟨a, rfl⟩ : ∃ a : Nat, xa = a := ⟨xa.toNat, by unfold Bad at hb; omega⟩
                        have hak : a + xl ≤ 64 := by unfold Bad at hb; omega
                        clear hb
                        by_cases hd : 0 < c f
                        · have hc := write_lost p bl n B (dead c) f a xA xc xl W HS.out.1.ram hf hak (decide_eq_true hd)
                          have d1 : decide ((0 : Int) < (c f : Int)) = true := decide_eq_true (by omega)
                          have d1n : decide (0 < c f) = true := decide_eq_true (by omega)
                          clear hd
                          go_wp2_with fail
                          refine hc.mono ?_
                          rintro e w5 ⟨rfl, hr5, hC5⟩
                          have hS9 := HS.out.1.only hr5 hC5
                          have b9 := hC5.blk (show Blk W a0 _ _ from HS.out.2.1) HS.out.2.2.1.1
                          have F := Lib.hid (show RpG w p bl q z n N (200 - (m + 1)) (.int .i64 ((m : Int) + 1)) w5 from ⟨m + 1, by omega, rfl, rfl, B, c, hS9⟩)
                          obtain ⟨hbd, v1, cz9⟩ := finT (B := B) (c := c) hS9 b9 hf
                          clear hS9 b9 hc hr5 hC5
                          go_wp2_with (first | ((with_reducible refine hbd.mono ?_); rintro e w9 ⟨rfl, rfl⟩) | go_in)
                          go_roundg (200 - (m + 1))
                          case measure => omega
                          case rel => exact F.out
                        · have d1 : decide ((0 : Int) < (c f : Int)) = false := decide_eq_false (by omega)
                          have d1n : decide (0 < c f) = false := decide_eq_false (by omega)
                          obtain ⟨r1, r2, r3, r4⟩ := rd_of_row HS.out.2.2.2.1 (by omega)
                          have rW := r1.chg HS.out.1.ch (fun _ _ _ x => x)
                          have hc := write_ok p bl n B (dead c) f a xA xc (xz.take xl) W HS.out.1.ram hf (by omega) (decide_eq_false hd) rW
                          rw [r2] at hc
                          have rn := row_nil HS.out.2.2.2.1
                          clear hd
                          go_wp2_with fail
                          refine hc.mono ?_
                          rintro e w5 ⟨rfl, hr5, hC5⟩
                          clear hc
                          obtain ⟨cz5, _, C, bq, bq5, hC⟩ := HS.out.1.half hC5 f hf2
                          have b5 := hC5.blk (show Blk W a0 _ _ from HS.out.2.1) HS.out.2.2.1.1
                          have v2 : w5.cell? ⟨a0, 2, none⟩ = some (.int .i64 (a : Int)) := by rw [bcell b5]; rfl
                          have v4 : w5.cell? ⟨a0, 4, none⟩ = some (.slice xA xl xc) := by rw [bcell b5]; rfl
                          have rw5 : Rd w5 .u8 xA (xz.take xl) := r1.chg (HS.out.1.ch.trans hC5 (fun i hi x => by have := HS.out.1.lo; have : i = bl := x; omega)) (fun _ _ _ x => x)
                          obtain ⟨i8, hi8, _, hsz8, _⟩ := info_parts (show (Try.prog.info? 5).map (fun i => (i.zero, i.size, i.bytes)) = some (some (.int .u8 0), 1, 1) by kernel_rfl)
                          have hsl : ∀ w1 : World, (Instr.sliceAt 52 (.pointer (some ⟨q, f * 64, none⟩)) (some (.int .i64 a)) none none).run Try.prog w1 = .ok (.slice (some (if 64 = a then ⟨q, f * 64, none⟩ else (⟨q, f * 64 + a, none⟩ : Addr))) (64 - a) (64 - a)) w1 := by
                            intro w1
                            rw [run_sliceAt_l w1 52 _ Try.underlying52 64 (by kernel_rfl) i8 hi8 hsz8 .i64 a (by omega) (by omega), Int.toNat_natCast, Hp.add_lit']
                          obtain ⟨w6, hcp, b6, hC6⟩ := copy_list bq5 hC.1 rw5 (by omega) (a := a) (f := f) (by omega) hf2 r2 xc
                          have hS9 := HS.out.1.wrote f a (xz.take xl) hf (by omega) hr5 hC5 C bq hC b6 (((Chg.refl (· = q) w5).drew).trans hC6 (fun _ _ x => x))
                          have b9 := hC6.blk (show Blk w5.drew a0 _ _ from b5) HS.out.2.2.1.2.1
                          have F := Lib.hid (show RpG w p bl q z n N (200 - (m + 1)) (.int .i64 ((m : Int) + 1)) w6 from ⟨m + 1, by omega, rfl, rfl, (upd B f a (xz.take xl)), c, hS9⟩)
                          obtain ⟨hbd, v1, cz9⟩ := finT (B := (upd B f a (xz.take xl))) (c := c) hS9 b9 hf
                          have j1 : (a : Int) ≤ 64 := by omega
                          have j3 : (0 : Int) ≤ (a : Int) := by omega
                          have j4 : (f : Int) < 1024 := by omega
                          have HX := Lib.hid rn
                          generalize (if 64 = a then (⟨q, f * 64, none⟩ : Addr) else (⟨q, f * 64 + a, none⟩ : Addr)) = sa at *
                          clear hS9 b9 b6 hC6 hC bq bq5 hr5 hC5 rw5 r1 r2 r3 r4 rW rn cz fz y0 y1 y2 y3 y4 hi8 hsz8 b5
                          go_wp2_with fail
                          go_region
                          go_wp2_with (first | ((with_reducible refine hbd.mono ?_); rintro e w9 ⟨rfl, rfl⟩) | go_in)
                          go_roundg (200 - (m + 1))
                          case measure => omega
                          case rel => exact F.out
                · have e1 : (xw == 1) = false := beq_eq_false_iff_ne.mpr hw1
                  by_cases hw2 : xw = 2
                  · subst hw2
                    as_aux_lemma =>
                      go_upto_region 39 with fail
                      go_cut [183] from 173 to 183 (fun v wx => v = .bool (decide (xn < 0 ∨ (n : Int) ≤ xn)) ∧ W = wx)
                      case first =>
                        by_cases hn0 : xn < 0
                        · have d2 : decide (xn < 0) = true := decide_eq_true hn0
                          have R := Lib.hid (show (xn < 0 ∨ (n : Int) ≤ xn) by first | omega | (unfold Bad; omega))
                          clear hn0
                          go_wp2_with fail
                          go_meet
                          exact ⟨congrArg Value.bool (decide_eq_true R.out).symm, rfl⟩
                        · have d2 : decide (xn < 0) = false := decide_eq_false hn0
                          by_cases hn1 : (n : Int) ≤ xn
                          · have d3 : decide ((n : Int) ≤ xn) = true := decide_eq_true hn1
                            have R := Lib.hid (show (xn < 0 ∨ (n : Int) ≤ xn) by first | omega | (unfold Bad; omega))
                            clear hn0 hn1
                            go_wp2_with fail
                            go_meet
                            exact ⟨congrArg Value.bool (decide_eq_true R.out).symm, rfl⟩
                          · have d3 : decide ((n : Int) ≤ xn) = false := decide_eq_false hn1
                            have R := Lib.hid (show ¬ (xn < 0 ∨ (n : Int) ≤ xn) by first | omega | (unfold Bad; omega))
                            clear hn0 hn1
                            go_wp2_with fail
                            go_meet
                            exact ⟨congrArg Value.bool (decide_eq_false R.out).symm, rfl⟩
                      case rest =>
                        obtain ⟨rfl, rfl⟩ := hcut
                        by_cases hb : xn < 0 ∨ (n : Int) ≤ xn
                        · rw [decide_eq_true hb]
                          have hc := copy_any p bl n B (dead c) f xn W HS.out.1.ram
                          obtain ⟨q1, q2⟩ := copyE_bad (n := n) (D := dead c) (B := B) (f := f) (t := xn) (.inr hb)
                          rw [q1, q2] at hc
                          clear q1 q2 hb
                          go_wp2_with fail
                          refine hc.mono ?_
                          rintro e w5 ⟨rfl, hr5, hC5⟩
                          have hS9 := HS.out.1.only hr5 hC5
                          have b9 := hC5.blk (show Blk W a0 _ _ from HS.out.2.1) HS.out.2.2.1.1
                          have F := Lib.hid (show RpG w p bl q z n N (200 - (m + 1)) (.int .i64 ((m : Int) + 1)) w5 from ⟨m + 1, by omega, rfl, rfl, B, c, hS9⟩)
                          obtain ⟨hbd, v1, cz9⟩ := finT (B := B) (c := c) hS9 b9 hf
                          clear hS9 b9 hc hr5 hC5
                          go_wp2_with (first | ((with_reducible refine hbd.mono ?_); rintro e w9 ⟨rfl, rfl⟩) | go_in)
                          go_roundg (200 - (m + 1))
                          case measure => omega
                          case rel => exact F.out
                        · rw [decide_eq_false hb]
                          obtain ⟨t, rfl⟩ : ∃ t : Nat, xn = t := ⟨xn.toNat, by omega⟩
                          have ht : t < n := by omega
                          have ht2 : t < 1024 := by omega
                          obtain ⟨ct, _⟩ := HS.out.1.cnt t ht2
                          have hct : c t ≤ 80 := HS.out.2.2.2.2.2 t
                          have i1 : IntKind.i64.wrap ((c f : Int) + (c t : Int)) = c f + c t := IntWalk.i64_in _ ⟨by omega, by omega⟩
                          have i2 : wrap64 ((c f : Int) + (c t : Int)) = c f + c t := by unfold wrap64; omega
                          have hc := copy_any p bl n B (dead c) f t (W.drewN 1) (HS.out.1.keep ((Chg.refl NoB W).drewN 1)).ram
                          clear hb
                          have j4 : (f : Int) < 1024 := by omega
                          have j5 : (t : Int) < 1024 := by omega
                          go_upto_region 41 with fail
                          go_cut [191] from 184 to 191 (fun v wx => v = .bool (decide ((0 : Int) < (c f : Int) + (c t : Int))) ∧ ∃ k, W.drewN k = wx)
                          case first =>
                            go_quiet (fail)
                            go_wp2_with fail
                            go_meet
                            exact ⟨rfl, _, rfl⟩
                          case rest =>
                            obtain ⟨rfl, k, rfl⟩ := hcut
                            have hck : Chg NoB W (W.drewN k) := (Chg.refl NoB W).drewN k
                            have hSk := HS.out.1.keep hck
                            have bk := hck.blk (show Blk W a0 _ _ from HS.out.2.1) (fun x => x)
                            have hc := copy_any p bl n B (dead c) f t (W.drewN k) hSk.ram
                            have HS2 := Lib.hid (And.intro hSk (And.intro bk HS.out.2.2.1))
                            have v1' : (W.drewN k).cell? ⟨a0, 1, none⟩ = some (.int .i64 (f : Int)) := by rw [bcell bk]; rfl
                            clear hSk bk hck y0 y1 y2 y3 y4 cz fz ct i1 i2
                            generalize W.drewN k = W2 at *
                            by_cases hs : 0 < c f + c t
                            · rw [show decide ((0 : Int) < (c f : Int) + (c t : Int)) = true from decide_eq_true (by omega)]
                              obtain ⟨q1, q2⟩ := copyE_lost (B := B) (c := c) hf ht hs
                              rw [q1, q2] at hc
                              clear q1 q2 hs
                              go_wp2_with fail
                              refine hc.mono ?_
                              rintro e w5 ⟨rfl, hr5, hC5⟩
                              have hS9 := HS2.out.1.only hr5 hC5
                              have b9 := hC5.blk (show Blk W2 a0 _ _ from HS2.out.2.1) HS2.out.2.2.1
                              have F := Lib.hid (show RpG w p bl q z n N (200 - (m + 1)) (.int .i64 ((m : Int) + 1)) w5 from ⟨m + 1, by omega, rfl, rfl, B, c, hS9⟩)
                              obtain ⟨hbd, v1, cz9⟩ := finT (B := B) (c := c) hS9 b9 hf
                              clear hS9 b9 hc hr5 hC5
                              go_wp2_with (first | ((with_reducible refine hbd.mono ?_); rintro e w9 ⟨rfl, rfl⟩) | go_in)
                              go_roundg (200 - (m + 1))
                              case measure => omega
                              case rel => exact F.out
                            · rw [show decide ((0 : Int) < (c f : Int) + (c t : Int)) = false from decide_eq_false (by omega)]
                              obtain ⟨q1, q2⟩ := copyE_ok (B := B) (c := c) hf ht hs
                              rw [q1, q2] at hc
                              clear q1 q2 hs
                              go_wp2_with fail
                              refine hc.mono ?_
                              rintro e w5 ⟨rfl, hr5, hC5⟩
                              clear hc
                              obtain ⟨cz5, _, C, bq, bq5, hC⟩ := HS2.out.1.half hC5 f hf2
                              have b5 := hC5.blk (show Blk W2 a0 _ _ from HS2.out.2.1) HS2.out.2.2.1
                              have hld := load_frame bq5 hC hf2
                              have HC := Lib.hid (And.intro hr5 (And.intro hC5 (And.intro bq (And.intro hC b5))))
                              have hcs := hC.1
                              clear hr5 hC5 bq hC b5
                              go_wp2_with (first
                                | (refine load_at rfl 52 (.tmp 203) rfl ⟨q, f * 64, none⟩ (by rfl) _ hld ?_)
                                | ((refine store_spl rfl 52 (.tmp 205) (.tmp 204) rfl ((rdL B f 0 64).map (Value.int .u8)).toArray (frame_info B f) q (t * 64) C 53 (by rfl) (by rfl) bq5 (frame_fit hcs ht2) (frame_one B f) ?_); intro w6 b6 hC6; have hS9 := HS2.out.1.wrote t 0 (rdL B f 0 64) ht (by rw [rdL_len]; omega) HC.out.1 HC.out.2.1 C HC.out.2.2.1 HC.out.2.2.2.1 (by simpa using b6) hC6; have b9 := hC6.blk (show Blk w5 a0 _ _ from HC.out.2.2.2.2) HS2.out.2.2.2.1; have F := Lib.hid (show RpG w p bl q z n N (200 - (m + 1)) (.int .i64 ((m : Int) + 1)) w6 from ⟨m + 1, by omega, rfl, rfl, _, _, hS9⟩); obtain ⟨hbd, v1, cz9⟩ := finT hS9 b9 hf; clear hS9 b9 b6 hC6)
                                | ((with_reducible refine hbd.mono ?_); rintro e w9 ⟨rfl, rfl⟩) | go_in)
                              go_roundg (200 - (m + 1))
                              case measure => omega
                              case rel => exact F.out
                  · have e2 : (xw == 2) = false := beq_eq_false_iff_ne.mpr hw2
                    by_cases hw3 : xw = 3
                    · subst hw3
                      as_aux_lemma =>
                        by_cases hd : 0 < c f
                        · have hc := zero_no p bl n B (dead c) f W HS.out.1.ram 7 (by unfold atE; rw [if_neg (by unfold Bad; omega), Int.toNat_natCast, if_pos (show dead c f = true from decide_eq_true hd)]) (by decide)
                          have d1 : decide ((0 : Int) < (c f : Int)) = true := decide_eq_true (by omega)
                          have d1n : decide (0 < c f) = true := decide_eq_true (by omega)
                          clear hd
                          go_wp2_with fail
                          refine hc.mono ?_
                          rintro e w5 ⟨rfl, rfl⟩
                          clear hc
                          have hS9 := HS.out.1.up
                          have F := Lib.hid (show RpG w p bl q z n N (200 - (m + 1)) (.int .i64 ((m : Int) + 1)) W from ⟨m + 1, by omega, rfl, rfl, B, c, hS9⟩)
                          obtain ⟨hbd, v1, cz9⟩ := finT (B := B) (c := c) hS9 HS.out.2.1 hf
                          clear hS9
                          go_wp2_with (first | ((with_reducible refine hbd.mono ?_); rintro e w9 ⟨rfl, rfl⟩) | go_in)
                          go_roundg (200 - (m + 1))
                          case measure => omega
                          case rel => exact F.out
                        · have hc := zero_ok p bl n B (dead c) f W HS.out.1.ram hf (decide_eq_false hd)
                          have d1 : decide ((0 : Int) < (c f : Int)) = false := decide_eq_false (by omega)
                          have d1n : decide (0 < c f) = false := decide_eq_false (by omega)
                          clear hd
                          go_wp2_with fail
                          refine hc.mono ?_
                          rintro e w5 ⟨rfl, hr5, hC5⟩
                          clear hc
                          obtain ⟨cz5, _, C, bq, bq5, hC⟩ := HS.out.1.half hC5 f hf2
                          have b5 := hC5.blk (show Blk W a0 _ _ from HS.out.2.1) HS.out.2.2.1.1
                          have HC := Lib.hid (And.intro hr5 (And.intro hC5 (And.intro bq (And.intro hC b5))))
                          have hcs := hC.1
                          have j4 : (f : Int) < 1024 := by omega
                          clear hr5 hC5 bq hC b5
                          go_wp2_with (first
                            | ((refine store_spl rfl 52 (.tmp 224) (.tmp 223) rfl #[.int .u8 0, .int .u8 0, .int .u8 0, .int .u8 0, .int .u8 0, .int .u8 0, .int .u8 0, .int .u8 0, .int .u8 0, .int .u8 0, .int .u8 0, .int .u8 0, .int .u8 0, .int .u8 0, .int .u8 0, .int .u8 0, .int .u8 0, .int .u8 0, .int .u8 0, .int .u8 0, .int .u8 0, .int .u8 0, .int .u8 0, .int .u8 0, .int .u8 0, .int .u8 0, .int .u8 0, .int .u8 0, .int .u8 0, .int .u8 0, .int .u8 0, .int .u8 0, .int .u8 0, .int .u8 0, .int .u8 0, .int .u8 0, .int .u8 0, .int .u8 0, .int .u8 0, .int .u8 0, .int .u8 0, .int .u8 0, .int .u8 0, .int .u8 0, .int .u8 0, .int .u8 0, .int .u8 0, .int .u8 0, .int .u8 0, .int .u8 0, .int .u8 0, .int .u8 0, .int .u8 0, .int .u8 0, .int .u8 0, .int .u8 0, .int .u8 0, .int .u8 0, .int .u8 0, .int .u8 0, .int .u8 0, .int .u8 0, .int .u8 0, .int .u8 0] zero_info q (f * 64) C 53 (by rfl) (by rfl) bq5 (zero_fit hcs hf2) zero_one ?_); intro w6 b6 hC6; have hS9 := HS.out.1.wrote f 0 (List.replicate 64 0) hf (by simp) HC.out.1 HC.out.2.1 C HC.out.2.2.1 HC.out.2.2.2.1 (by exact b6) hC6; have b9 := hC6.blk (show Blk w5 a0 _ _ from HC.out.2.2.2.2) HS.out.2.2.1.2.1; have F := Lib.hid (show RpG w p bl q z n N (200 - (m + 1)) (.int .i64 ((m : Int) + 1)) w6 from ⟨m + 1, by omega, rfl, rfl, _, _, hS9⟩); obtain ⟨hbd, v1, cz9⟩ := finT hS9 b9 hf; clear hS9 b9 b6 hC6)
                            | ((with_reducible refine hbd.mono ?_); rintro e w9 ⟨rfl, rfl⟩) | go_in)
                          go_roundg (200 - (m + 1))
                          case measure => omega
                          case rel => exact F.out
                    · have e3 : (xw == 3) = false := beq_eq_false_iff_ne.mpr hw3
                      by_cases hw4 : xw = 4
                      · subst hw4
                        as_aux_lemma =>
                          by_cases hd : 0 < c f
                          · have hc := poison_no p bl n B (dead c) f W HS.out.1.ram (.inr (.inr (by rw [Int.toNat_natCast]; exact decide_eq_true hd)))
                            have d1 : ((c f : Int) == 0) = false := beq_eq_false_iff_ne.mpr (by omega)
                            have hsd : setD (dead c) f = dead c := setD_same (decide_eq_true hd)
                            clear hd
                            go_wp2_with fail
                            refine hc.mono ?_
                            rintro e w5 ⟨rfl, rfl⟩
                            clear hc
                            have hS9 := HS.out.1.poisoned f hf (by rw [dead_bump]; rw [hsd]; exact HS.out.1.ram) (Chg.refl (· = bl) W)
                            have b9 := ((Chg.refl (· = z) W).set (p := ⟨z, f, none⟩) (.inl rfl) (.int .i64 ((c f : Int) + 1))).blk (show Blk W a0 _ _ from HS.out.2.1) HS.out.2.2.1.2.2
                            have F := Lib.hid (show RpG w p bl q z n N (200 - (m + 1)) (.int .i64 ((m : Int) + 1)) _ from ⟨m + 1, by omega, rfl, rfl, B, bump c f, hS9⟩)
                            obtain ⟨hbd, v1, cz9⟩ := finT hS9 b9 hf
                            rw [bump_at] at hbd cz9
                            have d9 : decide ((0 : Int) < (c f : Int) + 1) = true := decide_eq_true (by omega)
                            have i1 : IntKind.i64.wrap ((c f : Int) + 1) = c f + 1 := IntWalk.i64_in _ ⟨by omega, by omega⟩
                            have i2 : wrap64 ((c f : Int) + 1) = c f + 1 := by unfold wrap64; omega
                            have j4 : (f : Int) < 1024 := by omega
                            clear hS9 b9
                            clear hsd
                            go_wp2_with (first | ((with_reducible refine hbd.mono ?_); rintro e w9 ⟨rfl, rfl⟩) | go_in)
                            go_roundg (200 - (m + 1))
                            case measure => omega
                            case rel => exact F.out
                          · have hc := poison_yes p bl n B (dead c) f W HS.out.1.ram hf (decide_eq_false hd)
                            have d1 : ((c f : Int) == 0) = true := by rw [beq_iff_eq]; omega
                            clear hd
                            go_wp2_with fail
                            refine hc.mono ?_
                            rintro e w5 ⟨rfl, hr5, hC5⟩
                            clear hc
                            obtain ⟨cz5, fz5, _⟩ := HS.out.1.half hC5 f hf2
                            have b5 := hC5.blk (show Blk W a0 _ _ from HS.out.2.1) HS.out.2.2.1.1
                            have hS9 := HS.out.1.poisoned f hf (by rw [dead_bump]; exact hr5) hC5
                            have b9 := ((Chg.refl (· = z) w5).set (p := ⟨z, f, none⟩) (.inl rfl) (.int .i64 ((c f : Int) + 1))).blk (show Blk w5 a0 _ _ from b5) HS.out.2.2.1.2.2
                            have F := Lib.hid (show RpG w p bl q z n N (200 - (m + 1)) (.int .i64 ((m : Int) + 1)) _ from ⟨m + 1, by omega, rfl, rfl, B, bump c f, hS9⟩)
                            obtain ⟨hbd, v1, cz9⟩ := finT hS9 b9 hf
                            rw [bump_at] at hbd cz9
                            have d9 : decide ((0 : Int) < (c f : Int) + 1) = true := decide_eq_true (by omega)
                            have i1 : IntKind.i64.wrap ((c f : Int) + 1) = c f + 1 := IntWalk.i64_in _ ⟨by omega, by omega⟩
                            have i2 : wrap64 ((c f : Int) + 1) = c f + 1 := by unfold wrap64; omega
                            have j4 : (f : Int) < 1024 := by omega
                            clear hS9 b9
                            clear hr5 hC5 b5
                            go_wp2_with (first | ((with_reducible refine hbd.mono ?_); rintro e w9 ⟨rfl, rfl⟩) | go_in)
                            go_roundg (200 - (m + 1))
                            case measure => omega
                            case rel => exact F.out
                      · have e4 : (xw == 4) = false := beq_eq_false_iff_ne.mpr hw4
                        clear hw0 hw1 hw2 hw3 hw4
                        as_aux_lemma =>
                          have hS9 := HS.out.1.up
                          have F := Lib.hid (show RpG w p bl q z n N (200 - (m + 1)) (.int .i64 ((m : Int) + 1)) W from ⟨m + 1, by omega, rfl, rfl, B, c, hS9⟩)
                          obtain ⟨hbd, v1, cz9⟩ := finT (B := B) (c := c) hS9 HS.out.2.1 hf
                          clear hS9
                          go_wp2_with (first | ((with_reducible refine hbd.mono ?_); rintro e w9 ⟨rfl, rfl⟩) | go_in)
                          go_roundg (200 - (m + 1))
                          case measure => omega
                          case rel => exact F.out
          · rw [decide_eq_false hT]
            have HT := Lib.hid (show xf < 0 ∨ (n : Int) ≤ xf by omega)
            clear hT
            go_upto_block 2 with fail
            by_cases hw0 : xw = 0
            · subst hw0
              as_aux_lemma =>
                have hc := read_bad p bl n B (dead c) xf xa xn W HS.out.1.ram (by have := HT.out; unfold Bad; omega)
                go_wp2_with fail
                refine hc.mono ?_
                rintro e w5 ⟨rfl, rfl⟩
                clear hc
                go_wp2_with fail
                go_quiet (fail)
                have hcq := (Chg.refl NoB W).drewN nq
                have hS9 := (HS.out.1.keep hcq).up
                have b9 := hcq.blk (show Blk W a0 _ _ from HS.out.2.1) (fun x => x)
                clear hcq
                have F := Lib.hid (show RpG w p bl q z n N (200 - (m + 1)) (.int .i64 ((m : Int) + 1)) _ from ⟨m + 1, by omega, rfl, rfl, B, c, hS9⟩)
                obtain ⟨hbd, v1⟩ := finF (B := B) (c := c) hS9 b9 HT.out
                clear hS9 b9
                go_wp2_with (first | ((with_reducible refine hbd.mono ?_); rintro e w9 ⟨rfl, rfl⟩) | go_in)
                go_roundg (200 - (m + 1))
                case measure => omega
                case rel => exact F.out
            · have e0 : (xw == 0) = false := beq_eq_false_iff_ne.mpr hw0
              by_cases hw1 : xw = 1
              · subst hw1
                as_aux_lemma =>
                  have hc := write_bad p bl n B (dead c) xf xa xA xc xl W HS.out.1.ram (by have := HT.out; unfold Bad; omega)
                  go_wp2_with fail
                  refine hc.mono ?_
                  rintro e w5 ⟨rfl, hr5, hC5⟩
                  have hS9 := HS.out.1.only hr5 hC5
                  have b9 := hC5.blk (show Blk W a0 _ _ from HS.out.2.1) HS.out.2.2.1.1
                  have F := Lib.hid (show RpG w p bl q z n N (200 - (m + 1)) (.int .i64 ((m : Int) + 1)) w5 from ⟨m + 1, by omega, rfl, rfl, B, c, hS9⟩)
                  obtain ⟨hbd, v1⟩ := finF (B := B) (c := c) hS9 b9 HT.out
                  clear hS9 b9 hc hr5 hC5
                  go_wp2_with (first | ((with_reducible refine hbd.mono ?_); rintro e w9 ⟨rfl, rfl⟩) | go_in)
                  go_roundg (200 - (m + 1))
                  case measure => omega
                  case rel => exact F.out
              · have e1 : (xw == 1) = false := beq_eq_false_iff_ne.mpr hw1
                by_cases hw2 : xw = 2
                · subst hw2
                  as_aux_lemma =>
                    have hc := copy_any p bl n B (dead c) xf xn W HS.out.1.ram
                    obtain ⟨q1, q2⟩ := copyE_bad (n := n) (D := dead c) (B := B) (f := xf) (t := xn) (.inl HT.out)
                    rw [q1, q2] at hc
                    clear q1 q2
                    go_wp2_with fail
                    refine hc.mono ?_
                    rintro e w5 ⟨rfl, hr5, hC5⟩
                    have hS9 := HS.out.1.only hr5 hC5
                    have b9 := hC5.blk (show Blk W a0 _ _ from HS.out.2.1) HS.out.2.2.1.1
                    have F := Lib.hid (show RpG w p bl q z n N (200 - (m + 1)) (.int .i64 ((m : Int) + 1)) w5 from ⟨m + 1, by omega, rfl, rfl, B, c, hS9⟩)
                    obtain ⟨hbd, v1⟩ := finF (B := B) (c := c) hS9 b9 HT.out
                    clear hS9 b9 hc hr5 hC5
                    go_wp2_with (first | ((with_reducible refine hbd.mono ?_); rintro e w9 ⟨rfl, rfl⟩) | go_in)
                    go_roundg (200 - (m + 1))
                    case measure => omega
                    case rel => exact F.out
                · have e2 : (xw == 2) = false := beq_eq_false_iff_ne.mpr hw2
                  by_cases hw3 : xw = 3
                  · subst hw3
                    as_aux_lemma =>
                      have hc := zero_no p bl n B (dead c) xf W HS.out.1.ram 1 (by unfold atE; rw [if_pos (by have := HT.out; unfold Bad; omega)]) (by decide)
                      go_wp2_with fail
                      refine hc.mono ?_
                      rintro e w5 ⟨rfl, rfl⟩
                      clear hc
                      have hS9 := HS.out.1.up
                      have F := Lib.hid (show RpG w p bl q z n N (200 - (m + 1)) (.int .i64 ((m : Int) + 1)) W from ⟨m + 1, by omega, rfl, rfl, B, c, hS9⟩)
                      obtain ⟨hbd, v1⟩ := finF (B := B) (c := c) hS9 HS.out.2.1 HT.out
                      clear hS9
                      go_wp2_with (first | ((with_reducible refine hbd.mono ?_); rintro e w9 ⟨rfl, rfl⟩) | go_in)
                      go_roundg (200 - (m + 1))
                      case measure => omega
                      case rel => exact F.out
                  · have e3 : (xw == 3) = false := beq_eq_false_iff_ne.mpr hw3
                    by_cases hw4 : xw = 4
                    · subst hw4
                      as_aux_lemma =>
                        have hc := poison_no p bl n B (dead c) xf W HS.out.1.ram (by have := HT.out; omega)
                        go_wp2_with fail
                        refine hc.mono ?_
                        rintro e w5 ⟨rfl, rfl⟩
                        clear hc
                        have hS9 := HS.out.1.up
                        have F := Lib.hid (show RpG w p bl q z n N (200 - (m + 1)) (.int .i64 ((m : Int) + 1)) W from ⟨m + 1, by omega, rfl, rfl, B, c, hS9⟩)
                        obtain ⟨hbd, v1⟩ := finF (B := B) (c := c) hS9 HS.out.2.1 HT.out
                        clear hS9
                        go_wp2_with (first | ((with_reducible refine hbd.mono ?_); rintro e w9 ⟨rfl, rfl⟩) | go_in)
                        go_roundg (200 - (m + 1))
                        case measure => omega
                        case rel => exact F.out
                    · have e4 : (xw == 4) = false := beq_eq_false_iff_ne.mpr hw4
                      clear hw0 hw1 hw2 hw3 hw4
                      as_aux_lemma =>
                        have hS9 := HS.out.1.up
                        have F := Lib.hid (show RpG w p bl q z n N (200 - (m + 1)) (.int .i64 ((m : Int) + 1)) W from ⟨m + 1, by omega, rfl, rfl, B, c, hS9⟩)
                        obtain ⟨hbd, v1⟩ := finF (B := B) (c := c) hS9 HS.out.2.1 HT.out
                        clear hS9
                        go_wp2_with (first | ((with_reducible refine hbd.mono ?_); rintro e w9 ⟨rfl, rfl⟩) | go_in)
                        go_roundg (200 - (m + 1))
                        case measure => omega
                        case rel => exact F.out
      · have hm2 : m = N := by omega
        have F : RetB true w (.returned (.bool true)) wr := ⟨rfl, hS.ch⟩
        have FF := Lib.hid F
        clear hS F
        go_wp2_with fail
        go_ret
        exact FF.out
theorem ramPlays_row (a0 : Int) (a1 : Option Addr) (len1 cap1 : Nat) (z1 : Nat → ActV) (W : World) (w0 : (Lit.int .i64 a0).wf = true) (w1 : IsActs W a1 len1 cap1 z1) :
    Calls Try.prog 9 #[.int .i64 a0, .slice a1 len1 cap1] W fun e w' => e = .returned (.bool true) ∧ Below W.heap.size W w' :=
  (ramPlays a0 a1 len1 cap1 z1 W w1).mono fun _ _ h => h.below
end Go.Proofs.Ytilameppdnmgdaa.Ram
