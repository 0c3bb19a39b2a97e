/- Trees that are none, or of none; a table that is poisoned: the calls. -/
import Derived.Test.YtimdojkhdneecaaTreeZ
namespace Go.Proofs.Ytimdojkhdneecaa.Tree
open Go.RowKit Go.Proofs.Ytimdojkhdneecaa.Hp Go.Proofs.Ytimdojkhdneecaa.Ram Go.Proofs.Ytimdojkhdneecaa.Word Go.Proofs.Ytimdojkhdneecaa.WordP Go.Proofs.Ytimdojkhdneecaa.Pool
set_option linter.unusedVariables false
set_option linter.unusedSimpArgs false
def ErrTo (w : World) (E : Int) (e : Ending) (w' : World) : Prop := e = .returned (.int .i64 E) ∧ Chg NoB w w'
theorem set_may {w : World} {tv : Value} (pg E k n : Int) (wr : Bool) (hE : E ≠ 0) (hm : Calls Try.prog 26 #[tv, .int .i64 pg] (w.alloc (.cells #[.int .i64 k, .int .i64 n, .bool wr] 33)) fun e w' => e = .returned (.int .i64 E) ∧ w.alloc (.cells #[.int .i64 k, .int .i64 n, .bool wr] 33) = w') :
    Calls Try.prog 10 #[tv, .int .i64 pg, .agg #[.int .i64 k, .int .i64 n, .bool wr]] w (ErrTo w E) := by
  have dE : (E != 0) = true := by rw [bne_iff_ne]; exact hE
  have dE2 : (E == 0) = false := by rw [beq_eq_false_iff_ne]; exact hE
  have cA : Chg NoB w (w.alloc (.cells #[.int .i64 k, .int .i64 n, .bool wr] 33)) := (Chg.refl NoB w).alloc _
  have F := Lib.hid (show ErrTo w E (.returned (.int .i64 E)) _ from ⟨rfl, cA⟩)
  clear cA hE
  go_enter Try.func10, Try.ntmps10
  go_wp2_with fail
  refine hm.mono ?_
  rintro e w1 ⟨rfl, rfl⟩
  clear hm
  go_wp2_with fail
  go_ret
  exact F.out
def NilE (w : World) (e : Ending) (w' : World) : Prop := e = .returned (.tuple #[.pointer none, .int .i64 1]) ∧ w = w'
theorem new_nil1 (P : Value) (w : World) : Calls Try.prog 9 #[.pointer none, P] w (NilE w) := by
  go_enter Try.func9, Try.ntmps9
  go_wp2_with fail
  go_ret2
  exact ⟨rfl, rfl⟩
theorem new_nil2 (a : Addr) (w : World) : Calls Try.prog 9 #[.pointer (some a), .pointer none] w (NilE w) := by
  go_enter Try.func9, Try.ntmps9
  go_wp2_with fail
  go_ret2
  exact ⟨rfl, rfl⟩
section
variable {w : World} {t pm p bl root : Nat} {ov : Value} {B : Nat → Nat → Int} {D : Nat → Bool}
def LostN (w : World) (e : Ending) (w' : World) : Prop := e = .returned (.tuple #[.int .u64 0, .int .i64 7]) ∧ w = w'
set_option maxHeartbeats 4000000 in
theorem tget_lost (f n : Nat) (ht : TBlk w t pm p root ov) (h : RRam w pm bl 1024 B D) (hf : f < 1024) (hn : n < 8) (hd : D f = true) :
    Calls Try.prog 31 #[.pointer (some ⟨t, 0, none⟩), .int .i64 (f : Int), .int .i64 (n : Int)] w (LostN w) := by
  have hrd := read_lost pm bl 1024 B D f (n * 8) 8 w h hf (by omega) hd
  rw [show ((n * 8 : Nat) : Int) = (n : Int) * 8 by omega, show ((8 : Nat) : Int) = 8 from rfl] at hrd
  have y0 : w.cell? ⟨t, 0, none⟩ = some (.pointer (some ⟨pm, 0, none⟩)) := by rw [bcell ht]; rfl
  clear ht h
  go_enter Try.func31, Try.ntmps31
  go_wp2_with fail
  refine hrd.mono ?_
  rintro e w1 ⟨rfl, rfl⟩
  clear hrd
  go_wp2_with fail
  go_ret2
  exact ⟨rfl, rfl⟩
def WayL (w : World) (e : Ending) (w' : World) : Prop := e = .returned (.tuple #[.slice none 0 0, .int .i64 7]) ∧ Chg NoB w w'
set_option maxRecDepth 100000 in
set_option maxHeartbeats 4000000 in
theorem way_lost (pg : Nat) (hpg : pg < 4096) (ht : TBlk w t pm p root ov) (h : RRam w pm bl 1024 B D) (hr : root < 1024) (hd : D root = true) :
    Calls Try.prog 28 #[.pointer (some ⟨t, 0, none⟩), .int .i64 (pg : Int)] w (WayL w) := by
  have y2 : w.cell? ⟨t, 2, none⟩ = some (.int .i64 (root : Int)) := by rw [bcell ht]; rfl
  have hdg := digits_any pg hpg (w.alloc (.cells #[.int .i64 (root : Int)] 3))
  have cA : Chg NoB w (w.alloc (.cells #[.int .i64 (root : Int)] 3)) := (Chg.refl NoB w).alloc _
  have bA : Blk (w.alloc (.cells #[.int .i64 (root : Int)] 3)) w.heap.size #[.int .i64 (root : Int)] 3 := bnew w _
  have H := Lib.hid (And.intro ht (And.intro h (And.intro cA bA)))
  clear ht h cA bA
  go_enter Try.func28, Try.ntmps28
  go_wp2_with fail
  refine hdg.mono ?_
  rintro e w1 ⟨rfl, hC1⟩
  have cc : Chg NoB w (w1.alloc (.cells (digA pg) 67)) := (H.out.2.2.1.trans hC1 (fun _ _ x => x)).alloc _
  have hgt := tget_lost root (dig pg 0) (cc.blk (show Blk w t _ _ from H.out.1) (fun x => x)) (H.out.2.1.chg cc (fun x => x) (fun x => x)) hr (dig_lt _ _) hd
  have b1 := (hC1.blk (show Blk _ _ _ _ from H.out.2.2.2) (fun x => x))
  have z1 : (w1.alloc (.cells (digA pg) 67)).cell? ⟨w.heap.size, 0, none⟩ = some (.int .i64 (root : Int)) := by
    have b2 : Blk (w1.alloc (.cells (digA pg) 67)) w.heap.size #[.int .i64 (root : Int)] 3 := balloc b1 _
    rw [bcell b2]; rfl
  have z2 : (w1.alloc (.cells (digA pg) 67)).cell? ⟨w1.heap.size, 0, none⟩ = some (.int .i64 (dig pg 0 : Nat)) := by
    have b2 : Blk (w1.alloc (.cells (digA pg) 67)) w1.heap.size (digA pg) 67 := bnew w1 _
    rw [bcell b2]; rfl
  have F := Lib.hid (show WayL w (.returned (.tuple #[.slice none 0 0, .int .i64 7])) _ from ⟨rfl, cc⟩)
  clear hdg hC1 cc b1 H y2
  go_wp2_with fail
  go_loopw [6, 21] (fun v i wr => v = .slice (some ⟨w.heap.size, 0, none⟩) 1 1 ∧ i = .int .i64 0 ∧ wr = w1.alloc (.cells (digA pg) 67)) (fun _ _ _ => 0)
  case atStart => exact ⟨rfl, rfl, rfl⟩
  case round =>
    obtain ⟨rfl, rfl, rfl⟩ := hrel
    go_wp2_with fail
    refine hgt.mono ?_
    rintro e w2 ⟨rfl, rfl⟩
    clear hgt
    go_wp2_with fail
    go_ret2
    exact F.out
set_option maxRecDepth 100000 in
set_option maxHeartbeats 4000000 in
theorem get_lost {w0 : World} {own : List Nat} (pg : Nat) (hpg : pg < 4096) (hl : own.length ≠ 0) (ht : TBlk w t pm p root ov) (hrow : w.ownsRow w0.heap.size 3 1 ov own.length (ownV own)) (h : RRam w pm bl 1024 B D) (hr : root < 1024) (hd : D root = true) :
    Calls Try.prog 14 #[.pointer (some ⟨t, 0, none⟩), .int .i64 (pg : Int)] w (GetTo w 0 0 false 7) := by
  have cA : Chg NoB w (w.alloc (.cells #[.int .i64 0, .int .i64 0, .bool false] 33)) := (Chg.refl NoB w).alloc _
  have bA : Blk (w.alloc (.cells #[.int .i64 0, .int .i64 0, .bool false] 33)) w.heap.size #[.int .i64 0, .int .i64 0, .bool false] 33 := bnew w _
  obtain ⟨A, c, hov⟩ := own_form hrow
  have t1 := cA.blk (show Blk w t _ _ from ht) (fun x => x)
  have hm := may_any (n := own.length) (pg : Int) (show TBlk _ t pm p root (.slice A own.length c) by rw [← hov]; exact t1)
  rw [show mayE (pg : Int) own.length = 0 by unfold mayE; rw [if_neg (by omega), if_neg hl]] at hm
  have hwy := way_lost pg hpg t1 (h.chg cA (fun x => x) (fun x => x)) hr hd
  have H := Lib.hid (And.intro cA bA)
  clear cA bA ht hrow h t1 hov hl
  go_enter Try.func14, Try.ntmps14
  go_wp2_with fail
  refine hm.mono ?_
  rintro e w1 ⟨rfl, rfl⟩
  clear hm
  go_wp2_with fail
  refine hwy.mono ?_
  rintro e w3 ⟨rfl, hC3⟩
  obtain ⟨⟨r0, r1, r2, q0, q1, q2⟩, b5, c5⟩ := ent_store (hC3.blk (show Blk _ _ _ _ from H.out.2) (fun x => x)) (H.out.1.trans hC3 (fun _ _ x => x)) (Nat.le_refl _) 0 0 false
  have F := Lib.hid (show GetTo w 0 0 false 7 (.returned (.tuple #[.agg #[.int .i64 0, .int .i64 0, .bool false], .int .i64 7])) _ from ⟨rfl, c5⟩)
  have HB := Lib.hid b5
  clear hwy hC3 H b5 c5
  go_wp2_with fail
  refine bodyPost_ret (results_ct rfl _ _ w.heap.size 33 _ (0, 0) _ rfl HB.out Try.underlying33 rfl (by kernel_rfl)) rfl ?_
  exact F.out
set_option maxHeartbeats 4000000 in
theorem set_lost {w0 : World} {own : List Nat} (pg : Nat) (k n : Int) (wr : Bool) (hk : EntOk k n wr) (hpg : pg < 4096) (hl : own.length ≠ 0) (ht : TBlk w t pm p root ov) (hrow : w.ownsRow w0.heap.size 3 1 ov own.length (ownV own)) (h : RRam w pm bl 1024 B D) (hr : root < 1024) (hd : D root = true) :
    Calls Try.prog 10 #[.pointer (some ⟨t, 0, none⟩), .int .i64 (pg : Int), .agg #[.int .i64 k, .int .i64 n, .bool wr]] w (ErrTo w 7) := by
  have cA : Chg NoB w (w.alloc (.cells #[.int .i64 k, .int .i64 n, .bool wr] 33)) := (Chg.refl NoB w).alloc _
  have bA : Blk (w.alloc (.cells #[.int .i64 k, .int .i64 n, .bool wr] 33)) w.heap.size #[.int .i64 k, .int .i64 n, .bool wr] 33 := bnew w _
  obtain ⟨A, c, hov⟩ := own_form hrow
  have t1 := cA.blk (show Blk w t _ _ from ht) (fun x => x)
  have hm := may_any (n := own.length) (pg : Int) (show TBlk _ t pm p root (.slice A own.length c) by rw [← hov]; exact t1)
  rw [show mayE (pg : Int) own.length = 0 by unfold mayE; rw [if_neg (by omega), if_neg hl]] at hm
  have hen := encode_any k n wr (w.alloc (.cells #[.int .i64 k, .int .i64 n, .bool wr] 33))
  have y0 : (w.alloc (.cells #[.int .i64 k, .int .i64 n, .bool wr] 33)).cell? ⟨w.heap.size, 0, none⟩ = some (.int .i64 k) := by rw [bcell bA]; rfl
  have y1 : (w.alloc (.cells #[.int .i64 k, .int .i64 n, .bool wr] 33)).cell? ⟨w.heap.size, 1, none⟩ = some (.int .i64 n) := by rw [bcell bA]; rfl
  have y2 : (w.alloc (.cells #[.int .i64 k, .int .i64 n, .bool wr] 33)).cell? ⟨w.heap.size, 2, none⟩ = some (.bool wr) := by rw [bcell bA]; rfl
  have H := Lib.hid (And.intro ht (And.intro h (And.intro cA hk)))
  clear cA bA ht hrow h t1 hov hl hk
  go_enter Try.func10, Try.ntmps10
  go_wp2_with fail
  refine hm.mono ?_
  rintro e w1 ⟨rfl, rfl⟩
  clear hm
  go_wp2_with fail
  refine hen.mono ?_
  rintro e w2 ⟨hC, ⟨_, rfl⟩ | ⟨g, _⟩⟩
  case inr => exact absurd H.out.2.2.2 g
  have c2 := H.out.2.2.1.trans hC (fun _ _ x => x)
  have hwy := way_lost pg hpg (c2.blk (show Blk w t _ _ from H.out.1) (fun x => x)) (H.out.2.1.chg c2 (fun x => x) (fun x => x)) hr hd
  have HC := Lib.hid c2
  generalize entN k n wr = v at *
  clear hen hC H y0 y1 y2 c2
  go_wp2_with fail
  refine hwy.mono ?_
  rintro e w3 ⟨rfl, hC3⟩
  have F := Lib.hid (show ErrTo w 7 (.returned (.int .i64 7)) w3 from ⟨rfl, HC.out.trans hC3 (fun _ _ x => x)⟩)
  clear hwy hC3 HC
  go_wp2_with fail
  go_ret
  exact F.out
end
end Go.Proofs.Ytimdojkhdneecaa.Tree
