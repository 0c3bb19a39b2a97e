/- Numbers as bytes: the statement on bounds. -/
import Derived.Test.YtkohbmbacdgjaaaWordC
namespace Go.Proofs.Ytkohbmbacdgjaaa.Word
open Go.RowKit Go.Proofs.Ytkohbmbacdgjaaa.Hp Go.Proofs.Ytkohbmbacdgjaaa.WordP
set_option linter.unusedVariables false
set_option linter.unusedSimpArgs false
theorem leN_zeros (n : Nat) : leN (List.replicate n 0) = 0 := by
  induction n with
  | zero => rfl
  | succ n ih => simp [List.replicate_succ, leN, ih]
/-- put where nothing is to be put -/
theorem put_zero (A : Option Addr) (L c : Nat) (a : Nat) (v : Int) (w : World) (hL : L ≤ 140737488351232) (ha : a ≤ L) :
    Calls Try.prog 20 #[.slice A L c, .int .i64 a, .int .u64 v, .int .i64 0] w fun e w' => e = .returned (.bool true) ∧ w = w' := by
  have ht : thereB L a 0 = true := decide_eq_true ⟨by omega, by omega, by omega, by omega, by omega⟩
  go_enter Try.func20, Try.ntmps20
  go_wp2_with fail
  refine (there_any _ L c a 0 _ hL).mono ?_
  rintro e w1 ⟨rfl, rfl⟩
  rw [ht]
  clear ht
  go_wp2_with fail
  go_loopw [16] (fun i wr => i = .int .i64 0 ∧ wr = w) (fun i wr => 0)
  case atStart => exact ⟨rfl, rfl⟩
  case round =>
    obtain ⟨rfl, rfl⟩ := hrel
    go_wp2_with fail
    go_ret
    exact ⟨rfl, rfl⟩
def boundsB (s a n : Nat) : Bool := decide (n ≤ 8 ∧ a + n ≤ s)
theorem bounds_there (s a n : Nat) : thereB s a n = boundsB s a n := by
  unfold thereB boundsB
  apply decide_eq_decide.mpr
  omega
theorem zeros_bytes (s : Nat) : Bytes (List.replicate s 0) := by
  intro x hx
  have := List.eq_of_mem_replicate hx
  omega
theorem get_zeros (g s c : Nat) (C : Array Value) (T : Nat) (a n : Nat) (w : World) (h : InB w g 0 C T (List.replicate s 0)) (hs : s ≤ 1000) :
    Calls Try.prog 18 #[.slice (some ⟨g, 0, none⟩) s c, .int .i64 a, .int .i64 n] w fun e w' => e = .returned (.tuple #[.int .u64 0, .bool (boundsB s a n)]) ∧ w = w' := by
  by_cases hc : n ≤ 8 ∧ a + n ≤ s
  · have hl : (List.replicate s (0 : Int)).length = s := by simp
    have := get_yes (some ⟨g, 0, none⟩) c (List.replicate s 0) a n w (h.rd (by omega)) (zeros_bytes s) hc.1 (by omega)
    rw [hl, List.drop_replicate, List.take_replicate, leN_zeros] at this
    rw [show boundsB s a n = true from decide_eq_true hc]
    exact this
  · have e : boundsB s a n = false := decide_eq_false hc
    rw [e]
    exact get_no _ s c a n w (by omega) (by rw [bounds_there, e])
theorem put_zeros (g s c : Nat) (C : Array Value) (T : Nat) (a n : Nat) (v : Int) (w : World) (h : InB w g 0 C T (List.replicate s 0)) (hs : s ≤ 1000) (hv0 : 0 ≤ v) (hv1 : v < 18446744073709551616) :
    Calls Try.prog 20 #[.slice (some ⟨g, 0, none⟩) s c, .int .i64 a, .int .u64 v, .int .i64 n] w fun e w' => e = .returned (.bool (boundsB s a n)) ∧ Chg (· = g) w w' := by
  by_cases hc : n ≤ 8 ∧ a + n ≤ s
  · have hl : (List.replicate s (0 : Int)).length = s := by simp
    have := put_yes g 0 c C T (List.replicate s 0) a n v w h (by omega) hv0 hv1 hc.1 (by omega)
    rw [hl] at this
    rw [show boundsB s a n = true from decide_eq_true hc]
    exact this.mono (by rintro e w' ⟨C', h1, _, _, h2⟩; exact ⟨h1, h2⟩)
  · have e : boundsB s a n = false := decide_eq_false hc
    rw [e]
    exact (put_no _ s c a v n w (by omega) (by rw [bounds_there, e])).mono (by rintro e w' ⟨h1, rfl⟩; exact ⟨h1, Chg.refl _ _⟩)
set_option maxHeartbeats 4000000 in
theorem wordBounds (a0 a1 a2 : Int) (w : World) (s a n : Nat) (hs : s < 20) (ha : a < 24) (hn : n < 12) (e0 : a0 % 20 = s) (e1 : a1 % 24 = a) (e2 : a2 % 12 = n) (p0 : 0 ≤ a0 ∧ a0 ≤ 255) (p1 : 0 ≤ a1 ∧ a1 ≤ 255) (p2 : 0 ≤ a2 ∧ a2 ≤ 255) :
    Calls Try.prog 10 #[.int .u8 a0, .int .u8 a1, .int .u8 a2] w (RetB true w) := by
  have hmk := run_make1 (P := Try.prog) 37 5 (.int .u8 0) 1 Try.underlying37 info8 rfl s (by omega) (by omega) (by omega)
  rw [Int.toNat_natCast] at hmk
  obtain ⟨p00, p01⟩ := p0
  obtain ⟨p10, p11⟩ := p1
  obtain ⟨p20, p21⟩ := p2
  have B0 : Blk (w.alloc (.cells (Array.replicate s (.int .u8 0)) 5)) w.heap.size (Array.replicate s (.int .u8 0)) 5 := bnew _ _
  have I0 : InB (w.alloc (.cells (Array.replicate s (.int .u8 0)) 5)) w.heap.size 0 (Array.replicate s (.int .u8 0)) 5 (List.replicate s 0) := by
    refine ⟨B0, by simp, fun j hj => ?_⟩
    rw [List.length_replicate] at hj
    simp [hj]
  have C0 : Chg NoB w (w.alloc (.cells (Array.replicate s (.int .u8 0)) 5)) := (Chg.refl _ _).alloc _
  clear B0
  have EB : boundsB s a n = (if n ≤ 8 then decide ((a : Int) + n ≤ s) else false) := by
    unfold boundsB
    split
    · apply decide_eq_decide.mpr; omega
    · apply decide_eq_false; omega
  have d3 : ∀ b : Bool, (b == b) = true := fun b => by cases b <;> rfl
  by_cases c1 : n ≤ 8
  · have d1 : decide ((n : Int) ≤ 8) = true := decide_eq_true (by omega)
    rw [if_pos c1] at EB
    generalize hbb : boundsB s a n = bb at *
    have d4 := EB.symm
    clear EB c1
    have d2 := d3 bb
    clear d3
    go_enter Try.func10, Try.ntmps10
    go_wp2_with fail
    refine (get_zeros w.heap.size s s _ _ a n _ I0 (by omega)).mono ?_
    rintro e w1 ⟨rfl, rfl⟩
    rw [hbb]
    go_wp2_with fail
    refine (answers _).mono ?_
    rintro e w1 ⟨rfl, hC⟩
    have I1 : InB w1 w.heap.size 0 (Array.replicate s (.int .u8 0)) 5 (List.replicate s 0) := ⟨hC.blk I0.bk (fun x => x), I0.fit, I0.by_⟩
    have C1 : Chg NoB w w1 := C0.trans hC (fun i hi hh => hh)
    clear hC C0 I0
    go_wp2_with fail
    refine (put_zeros w.heap.size s s _ _ a n 1 _ I1 (by omega) (by omega) (by omega)).mono ?_
    rintro e w2 ⟨rfl, hC⟩
    rw [hbb]
    have C2 : Chg NoB w w2 := C1.trans hC (fun i hi hh => by subst hh; omega)
    clear hC C1 I1
    go_wp2_with fail
    refine (put_no _ s s (-1) 1 1 _ (by omega) (decide_eq_false (by omega))).mono ?_
    rintro e w3 ⟨rfl, rfl⟩
    go_wp2_with fail
    refine (put_no _ s s 0 1 (-1) _ (by omega) (decide_eq_false (by omega))).mono ?_
    rintro e w3 ⟨rfl, rfl⟩
    go_wp2_with fail
    refine (put_no _ 0 0 0 1 1 _ (by omega) (decide_eq_false (by omega))).mono ?_
    rintro e w3 ⟨rfl, rfl⟩
    go_wp2_with fail
    refine (put_zero none 0 0 0 1 _ (by omega) (by omega)).mono ?_
    rintro e w3 ⟨rfl, rfl⟩
    go_wp2_with fail
    go_ret
    exact ⟨rfl, C2⟩
  · have d1 : decide ((n : Int) ≤ 8) = false := decide_eq_false (by omega)
    rw [if_neg c1] at EB
    generalize hbb : boundsB s a n = bb at *
    subst EB
    clear c1
    have d2 := d3 false
    clear d3
    go_enter Try.func10, Try.ntmps10
    go_wp2_with fail
    refine (get_zeros w.heap.size s s _ _ a n _ I0 (by omega)).mono ?_
    rintro e w1 ⟨rfl, rfl⟩
    rw [hbb]
    go_wp2_with fail
    refine (answers _).mono ?_
    rintro e w1 ⟨rfl, hC⟩
    have I1 : InB w1 w.heap.size 0 (Array.replicate s (.int .u8 0)) 5 (List.replicate s 0) := ⟨hC.blk I0.bk (fun x => x), I0.fit, I0.by_⟩
    have C1 : Chg NoB w w1 := C0.trans hC (fun i hi hh => hh)
    clear hC C0 I0
    go_wp2_with fail
    refine (put_zeros w.heap.size s s _ _ a n 1 _ I1 (by omega) (by omega) (by omega)).mono ?_
    rintro e w2 ⟨rfl, hC⟩
    rw [hbb]
    have C2 : Chg NoB w w2 := C1.trans hC (fun i hi hh => by subst hh; omega)
    clear hC C1 I1
    go_wp2_with fail
    refine (put_no _ s s (-1) 1 1 _ (by omega) (decide_eq_false (by omega))).mono ?_
    rintro e w3 ⟨rfl, rfl⟩
    go_wp2_with fail
    refine (put_no _ s s 0 1 (-1) _ (by omega) (decide_eq_false (by omega))).mono ?_
    rintro e w3 ⟨rfl, rfl⟩
    go_wp2_with fail
    refine (put_no _ 0 0 0 1 1 _ (by omega) (decide_eq_false (by omega))).mono ?_
    rintro e w3 ⟨rfl, rfl⟩
    go_wp2_with fail
    refine (put_zero none 0 0 0 1 _ (by omega) (by omega)).mono ?_
    rintro e w3 ⟨rfl, rfl⟩
    go_wp2_with fail
    go_ret
    exact ⟨rfl, C2⟩
theorem wordBounds_row (a0 a1 a2 : Int) (W : World) (w0 : (Lit.int .u8 a0).wf = true) (w1 : (Lit.int .u8 a1).wf = true) (w2 : (Lit.int .u8 a2).wf = true) :
    Calls Try.prog 10 #[.int .u8 a0, .int .u8 a1, .int .u8 a2] W fun e w' => e = .returned (.bool true) ∧ Below W.heap.size W w' := by
  have b0 := bounds_u8 w0
  have b1 := bounds_u8 w1
  have b2 := bounds_u8 w2
  obtain ⟨s, hs⟩ := Int.eq_ofNat_of_zero_le (show 0 ≤ a0 % 20 by omega)
  obtain ⟨a, ha⟩ := Int.eq_ofNat_of_zero_le (show 0 ≤ a1 % 24 by omega)
  obtain ⟨n, hn⟩ := Int.eq_ofNat_of_zero_le (show 0 ≤ a2 % 12 by omega)
  exact (wordBounds a0 a1 a2 W s a n (by omega) (by omega) (by omega) hs ha hn b0 b1 b2).mono fun e w' h => h.below
end Go.Proofs.Ytkohbmbacdgjaaa.Word
