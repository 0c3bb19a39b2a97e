/- What EntryReads does, over the printed contracts of what it calls. -/
import Derived.Test.YtkohbmbacdgjaaaPEntryBackx4
import Derived.Test.YtkohbmbacdgjaaaPureEntryBack
namespace Go.Proofs.Ytkohbmbacdgjaaa.WEntryReads
open Go.RowKit Go.Proofs.Ytkohbmbacdgjaaa.PEntryBack Go.Proofs.YtkohbmbacdgjaaaW.PrintWords Go.Proofs.YtkohbmbacdgjaaaW.PrintLast Go.Proofs.YtkohbmbacdgjaaaW.PrintMore
set_option linter.unusedVariables false
set_option linter.unusedSimpArgs false
set_option maxHeartbeats 2000000 in
theorem reads_yes (k : Nat) (v a n : Int) (z : Bool) (w : World) (hd : entry_Decode.f k v = some (a, n, z, 0)) (ha : headlandlaw11_answers.f k = some true)
    (he : headlandref08_Entry.f a n z = some true) (hn : headlandref08_Number.f a n z = some v) :
    Calls Try.prog 4 #[.int .u64 v] w fun e w' => e = .returned (.bool true) ∧ Below w.heap.size w w' := by
  go_enter Try.func4, Try.ntmps4
  go_wp2_with fail
  refine (entry_Decode.calls k v a n z 0 _ hd).mono ?_
  rintro e w1 ⟨rfl, hb1⟩
  go_wp2_with fail
  refine (headlandlaw11_answers.calls k true _ ha).mono ?_
  rintro e w2 ⟨rfl, hb2⟩
  have bk2 := blk_below (blk_new w1 _) hb2
  have c0 := blk_cell bk2 0
  have c1 := blk_cell bk2 1
  have c2 := blk_cell bk2 2
  have B2 : Below w.heap.size w w2 := below_step (below_alloc hb1 _) hb2
  clear hb1 hb2
  go_wp2_with fail
  refine (headlandref08_Entry.calls a n z true _ he).mono ?_
  rintro e w3 ⟨rfl, hb3⟩
  have bk3 := blk_below bk2 hb3
  have d0 := blk_cell bk3 0
  have d1 := blk_cell bk3 1
  have d2 := blk_cell bk3 2
  have B3 : Below w.heap.size w w3 := below_step B2 hb3
  clear hb3 c0 c1 c2 bk2 B2
  go_wp2_with fail
  refine (headlandref08_Number.calls a n z v _ hn).mono ?_
  rintro e w4 ⟨rfl, hb4⟩
  have B4 : Below w.heap.size w w4 := below_step B3 hb4
  clear hb4 B3 d0 d1 d2 bk3
  go_wp2_with fail
  go_ret
  exact ⟨by simp, B4⟩
set_option maxHeartbeats 2000000 in
theorem reads_big (k : Nat) (v : Int) (w : World) (hv0 : 0 ≤ v) (hv1 : v < 18446744073709551616) (hd : entry_Decode.f k v = some (0, 0, false, 8)) (ha : headlandlaw11_answers.f k = some true)
    (hr : 1 < v / 1099511627776) :
    Calls Try.prog 4 #[.int .u64 v] w fun e w' => e = .returned (.bool true) ∧ Below w.heap.size w w' := by
  go_enter Try.func4, Try.ntmps4
  go_wp2_with fail
  refine (entry_Decode.calls k v 0 0 false 8 _ hd).mono ?_
  rintro e w1 ⟨rfl, hb1⟩
  go_wp2_with fail
  refine (headlandlaw11_answers.calls k true _ ha).mono ?_
  rintro e w2 ⟨rfl, hb2⟩
  have bk2 := blk_below (blk_alloc (blk_new w1 _) _) hb2
  have c0 := blk_cell bk2 0
  have c1 := blk_cell bk2 1
  have c2 := blk_cell bk2 2
  have B2 : Below w.heap.size w w2 := below_step (below_alloc (below_alloc hb1 _) _) hb2
  clear hb1 hb2
  have eA := fun (d : Nat) (w : World) => eqA23 d w 0 0 0 0 false false
  go_wp2_with fail
  go_ret
  exact ⟨rfl, B2⟩
set_option maxHeartbeats 2000000 in
theorem reads_no (k : Nat) (v : Int) (w : World) (hv0 : 0 ≤ v) (hv1 : v < 18446744073709551616) (hd : entry_Decode.f k v = some (0, 0, false, 8)) (ha : headlandlaw11_answers.f k = some true)
    (he : headlandref08_Entry.f (v % 4) (v % 1099511627776 / 4) (v / 1099511627776 == 1) = some false) (hr : decide (1 < v / 1099511627776) = false) :
    Calls Try.prog 4 #[.int .u64 v] w fun e w' => e = .returned (.bool true) ∧ Below w.heap.size w w' := by
  go_enter Try.func4, Try.ntmps4
  go_wp2_with fail
  refine (entry_Decode.calls k v 0 0 false 8 _ hd).mono ?_
  rintro e w1 ⟨rfl, hb1⟩
  go_wp2_with fail
  refine (headlandlaw11_answers.calls k true _ ha).mono ?_
  rintro e w2 ⟨rfl, hb2⟩
  have bk2 := blk_below (blk_alloc (blk_new w1 _) _) hb2
  have c0 := blk_cell bk2 0
  have c1 := blk_cell bk2 1
  have c2 := blk_cell bk2 2
  have B2 : Below w.heap.size w w2 := below_step (below_alloc (below_alloc hb1 _) _) hb2
  have bk3 : w2.heap[w1.heap.size + 1]? = some (.cells #[.int .i64 (v % 4), .int .i64 (v % 1099511627776 / 4), .bool (v / 1099511627776 == 1)] 23 (0, 0)) := by
    have := blk_below (blk_new _ _) hb2
    simpa using this
  have d0 := blk_cell bk3 0
  have d1 := blk_cell bk3 1
  have d2 := blk_cell bk3 2
  clear hb1 hb2
  have eA := fun (d : Nat) (w : World) => eqA23 d w 0 0 0 0 false false
  go_wp2_with fail
  refine (headlandref08_Entry.calls _ _ _ false _ he).mono ?_
  rintro e w3 ⟨rfl, hb3⟩
  have B3 : Below w.heap.size w w3 := below_step B2 hb3
  go_wp2_with fail
  go_ret
  exact ⟨rfl, B3⟩
theorem reads (v : Int) (w : World) (hv : (Lit.int .u64 v).wf = true) :
    Calls Try.prog 4 #[.int .u64 v] w fun e w' => e = .returned (.bool true) ∧ Below w.heap.size w w' := by
  have hb := bounds_u64 hv
  have hans := Pure.answers11 0
  have hdec := Pure.dec_eq 0 v hb.1 (by omega)
  by_cases c : v - v / 1099511627776 % 2 * 1099511627776 < 4096 ∧ Pure.EOk (v % 4) (v % 1099511627776 / 4) (decide (v / 1099511627776 % 2 = 1))
  · rw [if_pos c] at hdec
    have hr : v / 1099511627776 = 0 ∨ v / 1099511627776 = 1 := by omega
    have hn : Pure.enum (v % 4) (v % 1099511627776 / 4) (decide (v / 1099511627776 % 2 = 1)) = v := by
      unfold Pure.enum
      rcases hr with h | h <;> rw [h] <;> simp <;> omega
    exact reads_yes _ v _ _ _ w hdec hans (by rw [Pure.ref_eq, decide_eq_true c.2]) (by rw [Pure.num_eq _ _ _ c.2, hn])
  · rw [if_neg c] at hdec
    by_cases d : 1 < v / 1099511627776
    · exact reads_big _ v w hb.1 (by omega) hdec hans d
    · have hr : v / 1099511627776 = 0 ∨ v / 1099511627776 = 1 := by omega
      refine reads_no _ v w hb.1 (by omega) hdec hans ?_ (decide_eq_false d)
      rw [Pure.ref_eq]
      congr 1
      apply decide_eq_false
      intro h
      apply c
      have e : (v / 1099511627776 == 1) = decide (v / 1099511627776 % 2 = 1) := by
        rcases hr with h | h <;> rw [h] <;> rfl
      rw [e] at h
      refine ⟨?_, h⟩
      have h2 : 0 ≤ v % 1099511627776 / 4 ∧ v % 1099511627776 / 4 < 1024 := by unfold Pure.EOk at h; omega
      omega
end Go.Proofs.Ytkohbmbacdgjaaa.WEntryReads
