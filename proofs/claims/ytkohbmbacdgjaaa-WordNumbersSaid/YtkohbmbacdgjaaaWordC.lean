/- Numbers as bytes: what the statements call: the helper answers, copies, sameness. -/
import Derived.Test.YtkohbmbacdgjaaaWordB
namespace Go.Proofs.Ytkohbmbacdgjaaa.Word
open Go.RowKit Go.Proofs.Ytkohbmbacdgjaaa.Hp Go.Proofs.Ytkohbmbacdgjaaa.WordP
set_option linter.unusedVariables false
set_option linter.unusedSimpArgs false
theorem one_u8 (l : List Int) : ∀ v ∈ l.map (Value.int .u8), v.oneCell' = true := by
  intro v hv
  obtain ⟨x, _, rfl⟩ := List.mem_map.mp hv
  rfl
theorem rd_src {w : World} {A : Option Addr} {l : List Int} (h : Rd w .u8 A l) : 0 < (l.map (Value.int .u8)).length → ∃ ad, A = some ad ∧ ∀ j v, (l.map (Value.int .u8))[j]? = some v → w.cell? (ad.add j) = some v := by
  intro hl
  rw [List.length_map] at hl
  obtain ⟨ad, e, hc⟩ := h.2 hl
  refine ⟨ad, e, fun j v hv => ?_⟩
  have hj : j < l.length := by
    have := (List.getElem?_eq_some_iff.1 hv).1
    rwa [List.length_map] at this
  rw [hc j hj]
  simp [hj] at hv
  simp [hj, hv]
theorem info8 : (Try.prog.info? 5).map (fun i => (i.zero, i.size, i.bytes)) = some (some (.int .u8 0), 1, 1) := by kernel_rfl
def SameRel (l1 l2 : List Int) (w : World) (i : Value) (wr : World) : Prop := ∃ k : Nat, k ≤ l1.length ∧ i = .int .i64 k ∧ l1.take k = l2.take k ∧ Chg NoB w wr
def RetB (b : Bool) (w : World) (e : Ending) (w' : World) : Prop := e = .returned (.bool b) ∧ Chg NoB w w'
theorem RetB.below {w : World} {e : Ending} {w' : World} (h : RetB true w e w') : e = .returned (.bool true) ∧ Below w.heap.size w w' := ⟨h.1, h.2.below (Nat.le_refl _) (fun i hi => absurd hi (fun x => x))⟩
set_option maxHeartbeats 4000000 in
theorem same_any (A1 A2 : Option Addr) (c1 c2 : Nat) (l1 l2 : List Int) (w : World) (h1 : Rd w .u8 A1 l1) (h2 : Rd w .u8 A2 l2) :
    Calls Try.prog 22 #[.slice A1 l1.length c1, .slice A2 l2.length c2] w (RetB (decide (l1 = l2)) w) := by
  have b1 := h1.1
  have b2 := h2.1
  by_cases hl : l1.length = l2.length
  · have ht : (((l1.length : Nat) : Int) != (l2.length : Int)) = false := by rw [bne_eq_false_iff_eq]; omega
    have HL := Lib.hid hl
    clear hl
    go_enter Try.func22, Try.ntmps22
    go_wp2_with fail
    go_loopw [5] (fun i wr => SameRel l1 l2 w i wr) (fun i wr => l1.length - (intOf i).toNat)
    case atStart => exact ⟨0, by omega, rfl, by simp, Chg.refl _ _⟩
    case round =>
      obtain ⟨k, hk, rfl, htk, hC⟩ := hrel
      by_cases hlt : k < l1.length
      · obtain ⟨a1, rfl, hc1⟩ := (h1.chg hC (fun _ _ _ x => x)).at_ k hlt
        obtain ⟨a2, rfl, hc2⟩ := (h2.chg hC (fun _ _ _ x => x)).at_ k (by have := HL.out; omega)
        have n1 := take_succ_getD l1 k hlt
        have n2 := take_succ_getD l2 k (by have := HL.out; omega)
        have go1 : l1.getD k 0 = l2.getD k 0 → ∀ wr', Chg NoB w wr' → SameRel l1 l2 w (.int .i64 ((k : Int) + 1)) wr' := fun e wr' hh => ⟨k + 1, by omega, rfl, by rw [n1, n2, htk, e], hh⟩
        have no1 : l1.getD k 0 ≠ l2.getD k 0 → ∀ wr', Chg NoB w wr' → RetB (decide (l1 = l2)) w (.returned (.bool false)) wr' := by
          intro e wr' hh
          have : ¬ l1 = l2 := fun x => e (by rw [x])
          rw [decide_eq_false this]
          exact ⟨rfl, hh⟩
        have i1 : (k : Int) < (l1.length : Int) := by omega
        have i2 : (k : Int) < (l2.length : Int) := by have := HL.out; omega
        have G := Lib.hid go1
        have N := Lib.hid no1
        clear go1 no1 n1 n2 htk h1 h2
        generalize l1.getD k 0 = x at *
        generalize l2.getD k 0 = y at *
        by_cases e : x = y
        · have g := G.out e
          have hxy : (x != y) = false := by rw [bne_eq_false_iff_eq]; exact e
          have GG := Lib.hid g
          clear e g G N
          go_wp2_with fail
          go_quiet (fail)
          go_wp2_with fail
          go_roundw
          case rel => exact GG.out _ (hC.drewN _)
          case measure => simp [intOf]; omega
        · have g := N.out e
          have hxy : (x != y) = true := by rw [bne_iff_ne]; exact e
          have GG := Lib.hid g
          clear e g G N
          go_wp2_with fail
          go_quiet (fail)
          go_wp2_with fail
          go_ret
          exact GG.out _ (hC.drewN _)
      · obtain rfl : k = l1.length := by omega
        have e : l1 = l2 := by
          rw [List.take_length] at htk
          rw [htk, List.take_of_length_le (by have := HL.out; omega)]
        have F : RetB (decide (l1 = l2)) w (.returned (.bool true)) wr := by rw [decide_eq_true e]; exact ⟨rfl, hC⟩
        have FF := Lib.hid F
        clear e F htk h1 h2
        go_wp2_with fail
        go_ret
        exact FF.out
  · have ht : (((l1.length : Nat) : Int) != (l2.length : Int)) = true := by rw [bne_iff_ne]; omega
    have F : RetB (decide (l1 = l2)) w (.returned (.bool false)) w := by
      rw [decide_eq_false (fun e => hl (by rw [e]))]; exact ⟨rfl, Chg.refl _ _⟩
    have FF := Lib.hid F
    clear hl F
    go_enter Try.func22, Try.ntmps22
    go_wp2_with fail
    go_ret
    exact FF.out
theorem rd_new8 (w : World) (g : Nat) (hg : g = w.heap.size) (xs : List Int) (hx : xs.length ≤ 1000) (fr : Nat × Nat) (C : Array Value) (hC : C = (xs.map (Value.int .u8)).toArray) : Rd (w.alloc (.cells C 5 fr)) .u8 (some ⟨g, 0, none⟩) xs := by
  subst hg
  refine ⟨by omega, fun _ => ⟨_, rfl, fun j hj => ?_⟩⟩
  have hb : (w.alloc (.cells C 5 fr)).heap[w.heap.size]? = some (.cells C 5 fr) := bnew w _
  have e : (⟨w.heap.size, 0, none⟩ : Addr).add j = ⟨w.heap.size, j, none⟩ := by unfold Addr.add; split <;> simp_all
  rw [e]
  simp only [World.cell?, hb]
  rw [hC]; simp [hj]

set_option maxHeartbeats 4000000 in
theorem answers (w : World) : Calls Try.prog 17 #[] w (RetB true w) := by
  have hmk := run_make1 (P := Try.prog) 37 5 (.int .u8 0) 1 Try.underlying37 info8 rfl 2 (by omega) (by omega) (by omega)
  rw [show (2 : Int).toNat = 2 from rfl, show Array.replicate 2 (Value.int .u8 0) = #[.int .u8 0, .int .u8 0] from rfl] at hmk
  go_enter Try.func17, Try.ntmps17
  go_wp2_with fail
  refine (get_yes (some ⟨w.heap.size + 1, 0, none⟩) 2 [52, 18] 0 2 _ (rd_new8 (w.alloc (.cells #[.int .u8 0, .int .u8 0] 5)) (w.heap.size + 1) (by simp) [52, 18] (by simp) (0, 0) _ rfl) (by intro x hx; simp at hx; omega) (by omega) (by simp)).mono ?_
  rintro e w1 ⟨rfl, rfl⟩
  rw [show leN ((([52, 18] : List Int).drop 0).take 2) = 4660 from by decide]
  have hC1 : Chg NoB w ((w.alloc (.cells #[.int .u8 0, .int .u8 0] 5)).alloc (.cells #[.int .u8 52, .int .u8 18] 5)) := ((Chg.refl _ _).alloc _).alloc _
  have hB : Blk ((w.alloc (.cells #[.int .u8 0, .int .u8 0] 5)).alloc (.cells #[.int .u8 52, .int .u8 18] 5)) w.heap.size #[.int .u8 0, .int .u8 0] 5 := balloc (bnew _ _) _
  have hI : InB ((w.alloc (.cells #[.int .u8 0, .int .u8 0] 5)).alloc (.cells #[.int .u8 52, .int .u8 18] 5)) w.heap.size 0 #[.int .u8 0, .int .u8 0] 5 [0, 0] := ⟨hB, by simp, fun j hj => by
    match j, hj with
    | 0, _ => rfl
    | 1, _ => rfl⟩
  clear hB
  go_wp2_with fail
  refine (put_yes w.heap.size 0 2 _ _ [0, 0] 0 2 4660 _ hI (by simp) (by omega) (by omega) (by omega) (by simp)).mono ?_
  rintro e w2 ⟨C', rfl, hI2, -, hC2⟩
  have C2 : Chg NoB w w2 := hC1.trans hC2 (fun i hi hh => by subst hh; omega)
  have hcell := hI2.cell 0 (by decide)
  rw [show (spl [0, 0] 0 (digs 4660 2)).getD 0 0 = 52 from by decide] at hcell
  clear hI2 hC2 hC1 hI
  go_wp2_with fail
  refine (sum_any none 0 [] _ (by intro j hj; cases hj) (by simp)).mono ?_
  rintro e w3 ⟨rfl, rfl⟩
  go_wp2_with fail
  refine (rsum_any none 0 [] _ ⟨by simp, by intro h; cases h⟩ (by intro x hx; cases hx)).mono ?_
  rintro e w3 ⟨rfl, rfl⟩
  generalize sum32 (fold 14695981039346656037 []) = y
  go_wp2_with fail
  go_ret
  exact ⟨rfl, C2⟩
end Go.Proofs.Ytkohbmbacdgjaaa.Word
