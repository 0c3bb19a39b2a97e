/- FileFails. -/
import Derived.Test.YtlhlnkfmmklkbaaFileB
namespace Go.Proofs.Ytlhlnkfmmklkbaa.File
open Go.RowKit Go.Proofs.Ytlhlnkfmmklkbaa.Hp Go.Proofs.Ytlhlnkfmmklkbaa.By Go.Proofs.Ytlhlnkfmmklkbaa.Disk
set_option linter.unusedVariables false
set_option linter.unusedSimpArgs false
/-- so much work is not done yet -/
def Bad (s : DSt) (k : Int) : Prop := s.num = ⟨0, k, -1, false⟩ ∧ s.n = 192
theorem bad_io {s : DSt} {k : Int} (h : Bad s k) (hk : 1 ≤ k) {n : Int} (h0 : 0 ≤ n) (h1 : n < 192) : s.ioE n = 6 ∧ Bad (s.io n) (k - 1) := by
  obtain ⟨e1, e2⟩ := h
  have hw : s.num.work = (⟨0, k - 1, -1, false⟩, 6) := by
    rw [e1]; unfold DN.work
    rw [if_neg (by simp)]
    simp only [show ¬ ((0 : Int) < -1) by decide, show ¬ ((0 : Int) < 0) by decide, if_false, show (0 : Int) < k by omega, if_true]
  refine ⟨by rw [ioE_in h0 (by rw [e2]; exact h1), hw], ?_⟩
  rw [io_in h0 (by rw [e2]; exact h1), hw]
  exact ⟨rfl, e2⟩
theorem bad_wr {s : DSt} {k : Int} (h : Bad s k) (hk : 1 ≤ k) {n : Int} (h0 : 0 ≤ n) (h1 : n < 192) {l : List Int} (hl : l.length = 64) : s.wrE n l.length = 6 ∧ Bad (s.wr n l) (k - 1) := by
  obtain ⟨b1, b2⟩ := bad_io h hk h0 h1
  refine ⟨by unfold DSt.wrE; rw [if_pos hl]; exact b1, ?_⟩
  unfold DSt.wr
  rw [if_pos hl, b1, if_neg (by decide)]
  exact b2
theorem fread_nil (f n : Int) (w : World) : Calls Try.prog 17 #[.pointer none, .int .i64 f, .int .i64 n] w fun e w' => e = .returned (.tuple #[.slice none 0 0, .int .i64 1]) ∧ w = w' :=
  fread_of _ f n w _ ((read_bad none _ w (.inr rfl)).mono fun e w' hp => ⟨⟨_, _, hp.1⟩, hp⟩)
theorem freadslot_nil (n : Int) (w : World) : Calls Try.prog 19 #[.pointer none, .int .i64 n] w fun e w' => e = .returned (.tuple #[.slice none 0 0, .int .i64 1]) ∧ w = w' :=
  freadslot_of _ n w _ ((read_bad none _ w (.inr rfl)).mono fun e w' hp => ⟨⟨_, _, hp.1⟩, hp⟩)
theorem fwrite_nil (f n : Int) (V : Value) (w : World) : Calls Try.prog 16 #[.pointer none, .int .i64 f, .int .i64 n, V] w fun e w' => e = .returned (.int .i64 1) ∧ w = w' :=
  fwrite_of _ f n V w _ ((write_bad none _ V w (.inr rfl)).mono fun e w' hp => ⟨⟨_, hp.1⟩, hp⟩)
theorem fwriteslot_nil (n : Int) (V : Value) (w : World) : Calls Try.prog 18 #[.pointer none, .int .i64 n, V] w fun e w' => e = .returned (.int .i64 1) ∧ w = w' :=
  fwriteslot_of _ n V w _ ((write_bad none _ V w (.inr rfl)).mono fun e w' hp => ⟨⟨_, hp.1⟩, hp⟩)
set_option maxRecDepth 100000 in
set_option maxHeartbeats 2000000 in
theorem fileFails (f p k : Int) (w : World) (f0 : 0 ≤ f) (f1 : f ≤ 255) (p0 : 0 ≤ p) (p1 : p ≤ 255) (k0 : 0 ≤ k) (k1 : k ≤ 255) : Calls Try.prog 4 #[.int .u8 f, .int .u8 p, .int .u8 k] w (True1 w) := by
  have hmk := make64
  have hpn : pageN (f % 4) (p % 16) = 96 + (f % 4) * 16 + (p % 16) := page_in (by omega)
  have hsn : slotN (k % 32) = 160 + k % 32 := slot_in (by omega)
  have pl : 0 ≤ pageN (f % 4) (p % 16) ∧ pageN (f % 4) (p % 16) < 192 := by omega
  have sl : 0 ≤ slotN (k % 32) ∧ slotN (k % 32) < 192 := by omega
  have PL := Lib.hid (And.intro pl sl)
  clear hpn hsn pl sl
  go_enter Try.func4, Try.ntmps4
  go_wp2_with fail
  refine (l_new 192 (by omega) (by omega) w).mono ?_
  rintro e w1 ⟨d, ρ, rfl, h⟩
  have hfl := l_fail 0 4 (by decide) (by decide) h
  clear h
  go_wp2_with fail
  refine hfl.mono ?_
  rintro e w2 ⟨rfl, h, _⟩
  clear hfl
  have B4 : Bad ((DSt.new 192).failing 0 4) 4 := ⟨rfl, rfl⟩
  have HB := Lib.hid B4
  clear B4
  generalize (DSt.new 192).failing 0 4 = s0 at *
  have hz : ρ w2.heap.size = 0 := by
    obtain ⟨_, _, _, _, _, _, _, hp⟩ := h.at_
    exact hp.rz _ (Nat.le_refl _)
  have Bu := Buf.new w2 64 w2.heap.size rfl
  have h3 := h.keep ((Chg.refl NoB w2).alloc (.cells (Array.replicate 64 (.int .u8 0)) 5))
  have hby := zero_bytes 64
  have hll : (List.replicate 64 (0 : Int)).length = 64 := List.length_replicate
  have HU := Lib.hid (And.intro Bu (And.intro hz (And.intro hby (And.intro hll h3))))
  clear Bu hz hby hll h3 h
  generalize List.replicate 64 (0 : Int) = l at HU
  generalize Array.replicate 64 (Value.int .u8 0) = Z at *
  go_wp2_with fail
  generalize w2.alloc (.cells Z 5) = w3 at *
  generalize w2.heap.size = g at *
  clear hmk
  generalize f % 4 = a at *
  generalize p % 16 = b at *
  generalize k % 32 = c at *
  obtain ⟨⟨q0, q1⟩, r0, r1⟩ := PL.out
  have hr1 := fread_any d ρ s0 a b w3 HU.out.2.2.2.2.at_
  refine hr1.mono ?_
  intro e w4 hp
  obtain ⟨v, rfl, h4, hc4, _, hv⟩ := HU.out.2.2.2.2.read hp
  obtain ⟨x1, x2⟩ := bad_io HB.out (by decide) q0 q1
  obtain rfl := hv (by rw [x1]; decide)
  rw [x1]
  have B3 := Lib.hid x2
  have U4 := HU.out.1.chg hc4 (fun x => x HU.out.2.1)
  have H4 := Lib.hid (And.intro U4 h4)
  clear hr1 hp hc4 hv x1 x2 U4 h4 HB
  generalize s0.io (pageN a b) = s1 at *
  go_wp2_with fail
  have hr2 := freadslot_any d ρ s1 c w4 H4.out.2.at_
  refine hr2.mono ?_
  intro e w5 hp
  obtain ⟨v, rfl, h5, hc5, _, hv⟩ := H4.out.2.read hp
  obtain ⟨x1, x2⟩ := bad_io B3.out (by decide) r0 r1
  obtain rfl := hv (by rw [x1]; decide)
  rw [x1]
  have B2 := Lib.hid x2
  have U5 := H4.out.1.chg hc5 (fun x => x HU.out.2.1)
  have H5 := Lib.hid (And.intro U5 h5)
  clear hr2 hp hc5 hv x1 x2 U5 h5 H4 B3
  generalize s1.io (slotN c) = s2 at *
  go_wp2_with fail
  have hw1 := fwrite_any d ρ s2 (some ⟨g, 0, none⟩) 64 l w5 H5.out.2.at_ HU.out.2.2.1 (H5.out.1.rd (by rw [HU.out.2.2.2.1]; omega)) (fun _ ad e x => x (by have := Option.some.inj e; subst this; exact HU.out.2.1)) a b
  rw [HU.out.2.2.2.1] at hw1
  refine hw1.mono ?_
  intro e w6 hp
  obtain ⟨rfl, hc6, ρ6, h6, hr6⟩ := H5.out.2.write hp
  obtain ⟨x1, x2⟩ := bad_wr B2.out (by decide) q0 q1 HU.out.2.2.2.1
  rw [x1]
  have B1 := Lib.hid x2
  have U6 := H5.out.1.chg hc6 (fun x => x HU.out.2.1)
  have hz6 := hr6 g H5.out.1.lt HU.out.2.1
  have H6 := Lib.hid (And.intro U6 (And.intro h6 hz6))
  clear hw1 hp hc6 hr6 x1 x2 U6 h6 hz6 H5 B2
  generalize s2.wr (pageN a b) l = s3 at *
  go_wp2_with fail
  have hw2 := fwriteslot_any d ρ6 s3 (some ⟨g, 0, none⟩) 64 l w6 H6.out.2.1.at_ HU.out.2.2.1 (H6.out.1.rd (by rw [HU.out.2.2.2.1]; omega)) (fun _ ad e x => x (by have := Option.some.inj e; subst this; exact H6.out.2.2)) c
  rw [HU.out.2.2.2.1] at hw2
  refine hw2.mono ?_
  intro e w7 hp
  obtain ⟨rfl, hc7, ρ7, h7, hr7⟩ := H6.out.2.1.write hp
  obtain ⟨x1, x2⟩ := bad_wr B1.out (by decide) r0 r1 HU.out.2.2.2.1
  rw [x1]
  have H7 := Lib.hid h7.ch
  clear hw2 hp hc7 hr7 x1 x2 h7 H6 B1 HU PL q0 q1 r0 r1
  go_wp2_with fail
  refine (fread_nil a b _).mono ?_
  rintro e w8 ⟨rfl, rfl⟩
  go_wp2_with fail
  refine (freadslot_nil c _).mono ?_
  rintro e w8 ⟨rfl, rfl⟩
  go_wp2_with fail
  refine (answers_any w7).mono ?_
  rintro e w8 ⟨rfl, hC⟩
  have fin : True1 w (.returned (.bool true)) w8 := ⟨rfl, H7.out.trans hC (fun _ _ x => x)⟩
  clear hC H7
  go_wp2_with fail
  refine (fwrite_nil a b _ _).mono ?_
  rintro e w9 ⟨rfl, rfl⟩
  go_wp2_with fail
  refine (fwriteslot_nil c _ _).mono ?_
  rintro e w9 ⟨rfl, rfl⟩
  go_wp2_with fail
  go_ret
  exact fin
theorem u8b {n : Int} (h : (Lit.int .u8 n).wf = true) : 0 ≤ n ∧ n ≤ 255 := by
  simp only [Lit.wf, Bool.and_eq_true, decide_eq_true_eq] at h
  have e1 : IntKind.u8.min = 0 := rfl
  have e2 : IntKind.u8.max = 255 := rfl
  omega
theorem fileFails_row (a0 a1 a2 : Int) (W : World) (w0 : (Lit.int .u8 a0).wf = true) (w1 : (Lit.int .u8 a1).wf = true) (w2 : (Lit.int .u8 a2).wf = true) : Calls Try.prog 4 #[.int .u8 a0, .int .u8 a1, .int .u8 a2] W fun e W' => e = .returned (.bool true) ∧ Below W.heap.size W W' :=
  (fileFails a0 a1 a2 W (u8b w0).1 (u8b w0).2 (u8b w1).1 (u8b w1).2 (u8b w2).1 (u8b w2).2).mono fun _ _ h => h.row
end Go.Proofs.Ytlhlnkfmmklkbaa.File
