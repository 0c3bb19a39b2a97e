/- Several texts in one (a claim holds at most 60 files). -/
import Derived.Test.YtimdojkhdneecaaRamC
import Derived.Test.YtimdojkhdneecaaWordGet
import Derived.Test.YtimdojkhdneecaaTreeP
import Derived.Deep.QuietTactic
import Derived.BigQuiet
import Derived.Laws.Rows
import Derived.Test.YtimdojkhdneecaaPoolO
import Derived.Test.YtimdojkhdneecaaOwn
namespace Go.Proofs.Ytimdojkhdneecaa.Tree
open Go.RowKit Go.Proofs.Ytimdojkhdneecaa.Hp Go.Proofs.Ytimdojkhdneecaa.Ram Go.Proofs.Ytimdojkhdneecaa.Word Go.Proofs.Ytimdojkhdneecaa.WordP
set_option linter.unusedVariables false
set_option linter.unusedSimpArgs false
def mostN (k : Int) : Int := if k = 1 then 1024 else if k = 2 then 32 else 1
theorem most_any (k : Int) (w : World) : Calls Try.prog 49 #[.int .i64 k] w fun e w' => e = .returned (.int .i64 (mostN k)) ∧ w = w' := by
  by_cases h1 : k = 1
  · subst h1
    go_enter Try.func49, Try.ntmps49
    go_wp2_with fail
    go_ret
    exact ⟨rfl, rfl⟩
  · have e1 : (k == 1) = false := beq_eq_false_iff_ne.mpr h1
    by_cases h2 : k = 2
    · subst h2
      go_enter Try.func49, Try.ntmps49
      go_wp2_with fail
      go_ret
      exact ⟨rfl, rfl⟩
    · have e2 : (k == 2) = false := beq_eq_false_iff_ne.mpr h2
      have em : mostN k = 1 := by unfold mostN; rw [if_neg h1, if_neg h2]
      rw [em]
      clear h1 h2 em
      go_enter Try.func49, Try.ntmps49
      go_wp2_with fail
      go_ret
      exact ⟨rfl, rfl⟩
def EntOk (k n : Int) (wr : Bool) : Prop := 0 ≤ k ∧ k ≤ 3 ∧ 0 ≤ n ∧ n < mostN k ∧ (wr = true → k = 1)
instance (k n : Int) (wr : Bool) : Decidable (EntOk k n wr) := by unfold EntOk; infer_instance
def entN (k n : Int) (wr : Bool) : Int := k + 4 * n + (if wr then 1099511627776 else 0)
theorem most_le (k : Int) : mostN k ≤ 1024 := by unfold mostN; split <;> (try split) <;> omega
theorem ent_lt {k n : Int} {wr : Bool} (h : EntOk k n wr) : 0 ≤ k + 4 * n ∧ k + 4 * n < 4096 := by
  obtain ⟨h1, h2, h3, h4, _⟩ := h
  have := most_le k
  omega
def EncPost (k n : Int) (wr : Bool) (w : World) (e : Ending) (w' : World) : Prop :=
  Chg NoB w w' ∧ ((EntOk k n wr ∧ e = .returned (.tuple #[.int .u64 (entN k n wr), .int .i64 0])) ∨ (¬ EntOk k n wr ∧ e = .returned (.tuple #[.int .u64 0, .int .i64 8])))
set_option maxRecDepth 100000 in
set_option maxHeartbeats 20000000 in
theorem encode_any (k n : Int) (wr : Bool) (w : World) : Calls Try.prog 27 #[.agg #[.int .i64 k, .int .i64 n, .bool wr]] w (EncPost k n wr w) := by
  have cA : Chg NoB w (w.alloc (.cells #[.int .i64 k, .int .i64 n, .bool wr] 33)) := (Chg.refl NoB w).alloc _
  have no : ¬ EntOk k n wr → ∀ w', Chg NoB w w' → EncPost k n wr w (.returned (.tuple #[.int .u64 0, .int .i64 8])) w' := fun h w' hc => ⟨hc, .inr ⟨h, rfl⟩⟩
  have hm := fun w => most_any k w
  have HM : ∀ (w' : World) (n' : Nat), Calls Try.prog 49 #[.int .i64 k] (w'.drewN n') fun e w2 => e = .returned (.int .i64 (mostN k)) ∧ w2 = w'.drewN n' := fun w' n' => (hm _).mono fun _ _ x => ⟨x.1, x.2.symm⟩
  have HH := Lib.hid HM
  clear hm HM
  by_cases a0 : k < 0
  · have d0 : decide (k < 0) = true := decide_eq_true a0
    have F := Lib.hid (no (fun h => by have := h.1; omega))
    clear no a0
    go_enter Try.func27, Try.ntmps27
    go_wp2_with fail
    go_quiet (fail)
    go_wp2_with fail
    go_ret2
    exact F.out _ (cA.drewN _)
  · have d0 : decide (k < 0) = false := decide_eq_false a0
    by_cases a1 : 3 < k
    · have d1 : decide (3 < k) = true := decide_eq_true a1
      have F := Lib.hid (no (fun h => by have := h.2.1; omega))
      clear no a0 a1
      go_enter Try.func27, Try.ntmps27
      go_wp2_with fail
      go_quiet (fail)
      go_wp2_with fail
      go_ret2
      exact F.out _ (cA.drewN _)
    · have d1 : decide (3 < k) = false := decide_eq_false a1
      by_cases a2 : n < 0
      · have d2 : decide (n < 0) = true := decide_eq_true a2
        have F := Lib.hid (no (fun h => by have := h.2.2.1; omega))
        clear no a0 a1 a2
        go_enter Try.func27, Try.ntmps27
        go_wp2_with fail
        go_quiet (fail)
        go_wp2_with fail
        go_ret2
        exact F.out _ (cA.drewN _)
      · have d2 : decide (n < 0) = false := decide_eq_false a2
        by_cases a3 : mostN k ≤ n
        · have d3 : decide (mostN k ≤ n) = true := decide_eq_true a3
          have F := Lib.hid (no (fun h => by have := h.2.2.2.1; omega))
          clear no a0 a1 a2 a3
          generalize mostN k = mk at *
          go_enter Try.func27, Try.ntmps27
          go_wp2_with fail
          go_quiet ((go_at_call 49; exact Calls.quiet_of_same (HH.out _ _)))
          go_wp2_with fail
          go_ret2
          exact F.out _ (cA.drewN _)
        · have d3 : decide (mostN k ≤ n) = false := decide_eq_false a3
          have hmo := most_le k
          have o1 : 0 ≤ n ∧ n ≤ 1023 := by omega
          have o2 : 0 ≤ k ∧ k ≤ 3 := by omega
          cases wr with
          | false =>
            have F := Lib.hid (show ∀ w', Chg NoB w w' → EncPost k n false w (.returned (.tuple #[.int .u64 (k + 4 * n), .int .i64 0])) w' from fun w' hc => ⟨hc, .inl ⟨⟨by omega, by omega, by omega, by omega, fun h => by cases h⟩, by unfold entN; simp⟩⟩)
            have i1 : IntKind.i64.wrap (4 * n) = 4 * n := IntWalk.i64_in _ ⟨by omega, by omega⟩
            have i2 : IntKind.i64.wrap (k + 4 * n) = k + 4 * n := IntWalk.i64_in _ ⟨by omega, by omega⟩
            have i3 : IntKind.u64.wrap (k + 4 * n) = k + 4 * n := IntWalk.u64_in _ ⟨by omega, by omega⟩
            have j1 : wrap64 (4 * n) = 4 * n := w64_id' _ (by omega) (by omega)
            have j2 : wrap64 (k + 4 * n) = k + 4 * n := w64_id' _ (by omega) (by omega)
            clear no a0 a1 a2 a3 hmo o1 o2
            generalize mostN k = mk at *
            go_enter Try.func27, Try.ntmps27
            go_wp2_with fail
            go_quiet ((go_at_call 49; exact Calls.quiet_of_same (HH.out _ _)))
            go_wp2_with fail
            go_ret2
            exact F.out _ (cA.drewN _)
          | true =>
            by_cases a4 : k = 1
            · subst a4
              have F := Lib.hid (show ∀ w', Chg NoB w w' → EncPost 1 n true w (.returned (.tuple #[.int .u64 (1 + 4 * n + 1099511627776), .int .i64 0])) w' from fun w' hc => ⟨hc, .inl ⟨⟨by omega, by omega, by omega, by omega, fun h => rfl⟩, by unfold entN; simp⟩⟩)
              have i1 : IntKind.i64.wrap (4 * n) = 4 * n := IntWalk.i64_in _ ⟨by omega, by omega⟩
              have i2 : IntKind.i64.wrap (1 + 4 * n) = 1 + 4 * n := IntWalk.i64_in _ ⟨by omega, by omega⟩
              have i3 : IntKind.u64.wrap (1 + 4 * n) = 1 + 4 * n := IntWalk.u64_in _ ⟨by omega, by omega⟩
              have j1 : wrap64 (4 * n) = 4 * n := w64_id' _ (by omega) (by omega)
              have j2 : wrap64 (1 + 4 * n) = 1 + 4 * n := w64_id' _ (by omega) (by omega)
              have hor := or40 (1 + 4 * n) (by omega) (by omega)
              clear no a0 a1 a2 a3 hmo o1 o2 d0 d1
              generalize mostN 1 = mk at *
              go_enter Try.func27, Try.ntmps27
              go_wp2_with fail
              go_quiet ((go_at_call 49; exact Calls.quiet_of_same (HH.out _ _)))
              go_wp2_with fail
              go_ret2
              exact F.out _ (cA.drewN _)
            · have e4 : (k != 1) = true := bne_iff_ne.mpr a4
              have F := Lib.hid (no (fun h => a4 (h.2.2.2.2 rfl)))
              clear no a0 a1 a2 a3 hmo o1 o2 a4
              generalize mostN k = mk at *
              go_enter Try.func27, Try.ntmps27
              go_wp2_with fail
              go_quiet ((go_at_call 49; exact Calls.quiet_of_same (HH.out _ _)))
              go_wp2_with fail
              go_ret2
              exact F.out _ (cA.drewN _)
end Go.Proofs.Ytimdojkhdneecaa.Tree

namespace Go.Proofs.Ytimdojkhdneecaa.Tree
open Go.RowKit Go.Proofs.Ytimdojkhdneecaa.Hp Go.Proofs.Ytimdojkhdneecaa.Ram Go.Proofs.Ytimdojkhdneecaa.Word Go.Proofs.Ytimdojkhdneecaa.WordP
set_option linter.unusedVariables false
set_option linter.unusedSimpArgs false
section
variable {P : Program}
/-- a result that lies in memory, and one beside it -/
theorem results_ct {fn : Func} {p u : Tmp} {ty : TypeId} (h : fn.results = #[.cell p ty, .tmp u]) (tmps : Array Value) (w : World) (g : Nat) (t : TypeId) (cs : Array Value) (fr : Nat × Nat) (d : TypeDesc)
    (hp : tmps.getD p undef = .pointer (some ⟨g, 0, none⟩)) (hg : w.heap[g]? = some (.cells cs t fr)) (hu : P.underlying ty = some d) (hd : (match d with | .struct _ | .array _ _ => true | _ => false) = true) (hi : (P.info? ty).map (·.size) = some cs.size) :
    (results fn tmps).run P w = .ok (.tuple #[.agg cs, tmps.getD u undef]) w := by
  have hp' : tmps[p]?.getD undef = .pointer (some ⟨g, 0, none⟩) := by simpa using hp
  simp [results, h, hp', asAddr, run_loadVar_row w g t ty cs fr d hg hu hd hi]
end
def DecPost (k n : Int) (wr : Bool) (w : World) (e : Ending) (w' : World) : Prop := e = .returned (.tuple #[.agg #[.int .i64 k, .int .i64 n, .bool wr], .int .i64 0]) ∧ Chg NoB w w'
set_option maxRecDepth 100000 in
set_option maxHeartbeats 20000000 in
theorem decode_any (k n : Int) (wr : Bool) (w : World) (h : EntOk k n wr) : Calls Try.prog 37 #[.int .u64 (entN k n wr)] w (DecPost k n wr w) := by
  obtain ⟨h0, h1⟩ := ent_lt h
  obtain ⟨a1, a2, a3, a4, a5⟩ := id h
  have hmo := most_le k
  have hbn : Go.bits .andNot .u64 (entN k n wr) 1099511627776 = k + 4 * n := by
    unfold entN
    cases wr with
    | false =>
      rw [andNot40 _ (by simp; omega) (by simp; omega)]
      simp; omega
    | true =>
      rw [andNot40 _ (by simp; omega) (by simp; omega)]
      simp; omega
  have hba : (Go.bits .and .u64 (entN k n wr) 1099511627776 != 0) = wr := by
    unfold entN
    cases wr with
    | false =>
      rw [and40 _ (by simp; omega) (by simp; omega)]
      simp; omega
    | true =>
      rw [and40 _ (by simp; omega) (by simp; omega)]
      simp; omega
  have hlt : decide (4096 ≤ k + 4 * n) = false := decide_eq_false (by omega)
  have t1 : (k + 4 * n).tmod 4 = k := by rw [Int.tmod_eq_emod_of_nonneg (by omega)]; omega
  have t2 : (k + 4 * n).tdiv 4 = n := by rw [Int.tdiv_eq_ediv_of_nonneg (by omega)]; omega
  have t3 : (k + 4 * n) % 4 = k := by omega
  have t4 : (k + 4 * n) / 4 = n := by omega
  have i1 : IntKind.i64.wrap k = k := IntWalk.i64_in _ ⟨by omega, by omega⟩
  have i2 : IntKind.i64.wrap n = n := IntWalk.i64_in _ ⟨by omega, by omega⟩
  have i3 : IntKind.u64.wrap k = k := IntWalk.u64_in _ ⟨by omega, by omega⟩
  have i4 : IntKind.u64.wrap n = n := IntWalk.u64_in _ ⟨by omega, by omega⟩
  have hen := fun w' => encode_any k n wr w'
  have HE := Lib.hid h
  generalize entN k n wr = v at *
  clear h h0 h1 a1 a2 a3 a4 a5 hmo
  go_enter Try.func37, Try.ntmps37
  go_wp2_with fail
  have bR : Blk ((w.alloc (.cells #[.int .i64 0, .int .i64 0, .bool false] 33)).alloc (.cells #[.int .i64 k, .int .i64 n, .bool wr] 33)) w.heap.size #[.int .i64 0, .int .i64 0, .bool false] 33 := balloc (bnew w _) _
  have bE : Blk ((w.alloc (.cells #[.int .i64 0, .int .i64 0, .bool false] 33)).alloc (.cells #[.int .i64 k, .int .i64 n, .bool wr] 33)) (w.heap.size + 1) #[.int .i64 k, .int .i64 n, .bool wr] 33 := bnew' (by simp) _
  have hcW : Chg NoB w ((w.alloc (.cells #[.int .i64 0, .int .i64 0, .bool false] 33)).alloc (.cells #[.int .i64 k, .int .i64 n, .bool wr] 33)) := ((Chg.refl NoB w).alloc _).alloc _
  generalize ((w.alloc (.cells #[.int .i64 0, .int .i64 0, .bool false] 33)).alloc (.cells #[.int .i64 k, .int .i64 n, .bool wr] 33)) = W at *
  refine (hen W).mono ?_
  rintro e w1 ⟨hC1, ⟨_, rfl⟩ | ⟨hno, _⟩⟩
  · have b1 := hC1.blk (show Blk W _ _ _ from bR) (fun x => x)
    have b2 := hC1.blk (show Blk W _ _ _ from bE) (fun x => x)
    have r0 : w1.cell? ⟨w.heap.size, 0, none⟩ = some (.int .i64 0) := by rw [bcell b1]; rfl
    have r1 : w1.cell? ⟨w.heap.size, 1, none⟩ = some (.int .i64 0) := by rw [bcell b1]; rfl
    have r2 : w1.cell? ⟨w.heap.size, 2, none⟩ = some (.bool false) := by rw [bcell b1]; rfl
    have q0 := bfroz b1 0
    have q1 := bfroz b1 1
    have q2 := bfroz b1 2
    have v0 : w1.cell? ⟨w.heap.size + 1, 0, none⟩ = some (.int .i64 k) := by rw [bcell b2]; rfl
    have v1 : w1.cell? ⟨w.heap.size + 1, 1, none⟩ = some (.int .i64 n) := by rw [bcell b2]; rfl
    have v2 : w1.cell? ⟨w.heap.size + 1, 2, none⟩ = some (.bool wr) := by rw [bcell b2]; rfl
    have b3 : Blk (((w1.setCell ⟨w.heap.size, 0, none⟩ (.int .i64 k)).setCell ⟨w.heap.size, 1, none⟩ (.int .i64 n)).setCell ⟨w.heap.size, 2, none⟩ (.bool wr)) w.heap.size #[.int .i64 k, .int .i64 n, .bool wr] 33 := bset (bset (bset b1 0 _) 1 _) 2 _
    have hC3 : Chg NoB w (((w1.setCell ⟨w.heap.size, 0, none⟩ (.int .i64 k)).setCell ⟨w.heap.size, 1, none⟩ (.int .i64 n)).setCell ⟨w.heap.size, 2, none⟩ (.bool wr)) := (((hcW.trans hC1 (fun _ _ x => x)).set (p := ⟨w.heap.size, 0, none⟩) (.inr (Nat.le_refl _)) _).set (p := ⟨w.heap.size, 1, none⟩) (.inr (Nat.le_refl _)) _).set (p := ⟨w.heap.size, 2, none⟩) (.inr (Nat.le_refl _)) _
    have m0 : (((w1.setCell ⟨w.heap.size, 0, none⟩ (.int .i64 k)).setCell ⟨w.heap.size, 1, none⟩ (.int .i64 n)).setCell ⟨w.heap.size, 2, none⟩ (.bool wr)).cell? ⟨w.heap.size, 0, none⟩ = some (.int .i64 k) := by rw [bcell b3]; rfl
    have m1 : (((w1.setCell ⟨w.heap.size, 0, none⟩ (.int .i64 k)).setCell ⟨w.heap.size, 1, none⟩ (.int .i64 n)).setCell ⟨w.heap.size, 2, none⟩ (.bool wr)).cell? ⟨w.heap.size, 1, none⟩ = some (.int .i64 n) := by rw [bcell b3]; rfl
    have m2 : (((w1.setCell ⟨w.heap.size, 0, none⟩ (.int .i64 k)).setCell ⟨w.heap.size, 1, none⟩ (.int .i64 n)).setCell ⟨w.heap.size, 2, none⟩ (.bool wr)).cell? ⟨w.heap.size, 2, none⟩ = some (.bool wr) := by rw [bcell b3]; rfl
    have F := Lib.hid (show DecPost k n wr w (.returned (.tuple #[.agg #[.int .i64 k, .int .i64 n, .bool wr], .int .i64 0])) _ from ⟨rfl, hC3⟩)
    have HB := Lib.hid b3
    clear hen b1 b2 b3 bR bE hcW hC1 hC3
    go_wp2_with fail
    refine bodyPost_ret (results_ct rfl _ _ w.heap.size 33 _ (0, 0) _ rfl HB.out Try.underlying33 rfl (by kernel_rfl)) rfl ?_
    exact F.out
  · exact absurd HE.out hno
def dig (pg k : Nat) : Nat := pg / 8 ^ (3 - k) % 8
theorem dig_pre (pg k : Nat) (hk : k < 4) : dig pg k = pre pg (k + 1) % 8 := by unfold dig pre; rw [show 4 - (k + 1) = 3 - k by omega]
def dcell (pg j i : Nat) : Value := .int .i64 (if 3 < i + j then ((dig pg i : Nat) : Int) else 0)
def DgR (w : World) (pg o : Nat) (p i : Value) (wr : World) : Prop := ∃ j : Nat, j ≤ 4 ∧ p = .int .i64 ((pg / 8 ^ j : Nat) : Int) ∧ i = .int .i64 (3 - (j : Int)) ∧ Chg NoB w wr ∧ w.heap.size ≤ o ∧ Blk wr o #[dcell pg j 0, dcell pg j 1, dcell pg j 2, dcell pg j 3] 67 ∧ Blk wr w.heap.size #[.int .i64 0, .int .i64 0, .int .i64 0, .int .i64 0] 67
def DgPost (w : World) (pg : Nat) (e : Ending) (w' : World) : Prop := e = .returned (.agg #[.int .i64 (dig pg 0 : Nat), .int .i64 (dig pg 1 : Nat), .int .i64 (dig pg 2 : Nat), .int .i64 (dig pg 3 : Nat)]) ∧ Chg NoB w w'
set_option maxRecDepth 100000 in
set_option maxHeartbeats 4000000 in
theorem digits_any (pg : Nat) (hpg : pg < 4096) (w : World) : Calls Try.prog 30 #[.int .i64 (pg : Int)] w (DgPost w pg) := by
  go_enter Try.func30, Try.ntmps30
  go_wp2_with fail
  have bO : Blk ((w.alloc (.cells #[.int .i64 0, .int .i64 0, .int .i64 0, .int .i64 0] 67)).alloc (.cells #[.int .i64 0, .int .i64 0, .int .i64 0, .int .i64 0] 67)) (w.heap.size + 1) #[.int .i64 0, .int .i64 0, .int .i64 0, .int .i64 0] 67 := bnew' (by simp) _
  have bR : Blk ((w.alloc (.cells #[.int .i64 0, .int .i64 0, .int .i64 0, .int .i64 0] 67)).alloc (.cells #[.int .i64 0, .int .i64 0, .int .i64 0, .int .i64 0] 67)) w.heap.size #[.int .i64 0, .int .i64 0, .int .i64 0, .int .i64 0] 67 := balloc (bnew w _) _
  have hcW : Chg NoB w ((w.alloc (.cells #[.int .i64 0, .int .i64 0, .int .i64 0, .int .i64 0] 67)).alloc (.cells #[.int .i64 0, .int .i64 0, .int .i64 0, .int .i64 0] 67)) := ((Chg.refl NoB w).alloc _).alloc _
  generalize ((w.alloc (.cells #[.int .i64 0, .int .i64 0, .int .i64 0, .int .i64 0] 67)).alloc (.cells #[.int .i64 0, .int .i64 0, .int .i64 0, .int .i64 0] 67)) = W at *
  have hB : DgR w pg (w.heap.size + 1) (.int .i64 (pg : Int)) (.int .i64 3) W := ⟨0, by omega, by simp, rfl, hcW, by omega, bO, bR⟩
  clear bO bR hcW
  go_loopw [0, 4] (fun p i wr => DgR w pg (w.heap.size + 1) p i wr) (fun p i wr => (intOf i + 1).toNat)
  case atStart => exact hB
  case round =>
    clear hB
    obtain ⟨j, hj, rfl, rfl, hC, ho, hb, hr⟩ := hrel
    rcases (by omega : j = 0 ∨ j = 1 ∨ j = 2 ∨ j = 3 ∨ j = 4) with rfl | rfl | rfl | rfl | rfl
    · obtain ⟨P, hP⟩ : ∃ P, P = pg / 8 ^ 0 := ⟨_, rfl⟩
      obtain ⟨R, hR⟩ : ∃ R, R = P % 8 := ⟨_, rfl⟩
      obtain ⟨Q, hQ⟩ : ∃ Q, Q = P / 8 := ⟨_, rfl⟩
      have hd : dig pg 3 = R := by rw [hR, hP]; rfl
      have hn : pg / 8 ^ 1 = Q := by rw [hQ, hP, Nat.div_div_eq_div_mul]
      have t1 : ((P : Nat) : Int).tmod 8 = (R : Int) := by rw [Int.tmod_eq_emod_of_nonneg (by omega)]; omega
      have t2 : ((P : Nat) : Int).tdiv 8 = (Q : Int) := by rw [Int.tdiv_eq_ediv_of_nonneg (by omega)]; omega
      have t3 : ((P : Nat) : Int) % 8 = (R : Int) := by omega
      have t4 : ((P : Nat) : Int) / 8 = (Q : Int) := by omega
      have hPle : P ≤ pg := by rw [hP]; exact Nat.div_le_self _ _
      have hQ0 : (0 : Int) ≤ (Q : Int) := Int.natCast_nonneg _
      have hQ4 : (Q : Int) < 4096 := by omega
      have t5 : wrap64 (Q : Int) = Q := w64_id' _ (Int.le_trans (by decide) hQ0) (Int.lt_trans hQ4 (by decide))
      have t6 : IntKind.i64.wrap (Q : Int) = Q := IntWalk.i64_in _ ⟨Int.le_trans (by decide) hQ0, Int.le_trans (Int.le_of_lt hQ4) (by decide)⟩
      rw [← hP]
      have c0 : ∃ u, wr.cell? ⟨w.heap.size + 1, 3, none⟩ = some u := ⟨_, by rw [bcell hb]; rfl⟩
      obtain ⟨u, c0⟩ := c0
      have q0 := bfroz hb 3
      have F := Lib.hid (show DgR w pg (w.heap.size + 1) (.int .i64 (Q : Int)) (.int .i64 2) (wr.setCell ⟨w.heap.size + 1, 3, none⟩ (.int .i64 (R : Int))) from ⟨1, by omega, by rw [hn], rfl, hC.set (p := ⟨w.heap.size + 1, 3, none⟩) (.inr ho) _, ho, by
        have h2 := bset hb 3 (.int .i64 (R : Int))
        have h3 : (#[dcell pg 0 0, dcell pg 0 1, dcell pg 0 2, dcell pg 0 3] : Array Value).setIfInBounds 3 (.int .i64 (R : Int)) = #[dcell pg 1 0, dcell pg 1 1, dcell pg 1 2, dcell pg 1 3] := by rw [← hd]; rfl
        rw [h3] at h2
        exact h2, bfar hr (by show w.heap.size ≠ w.heap.size + 1; omega) _⟩)
      clear hb hr hC hP hd hn hR hQ hPle hQ0 hQ4
      go_wp2_with fail
      exact ⟨F.out, by simp [intOf]⟩
    · obtain ⟨P, hP⟩ : ∃ P, P = pg / 8 ^ 1 := ⟨_, rfl⟩
      obtain ⟨R, hR⟩ : ∃ R, R = P % 8 := ⟨_, rfl⟩
      obtain ⟨Q, hQ⟩ : ∃ Q, Q = P / 8 := ⟨_, rfl⟩
      have hd : dig pg 2 = R := by rw [hR, hP]; rfl
      have hn : pg / 8 ^ 2 = Q := by rw [hQ, hP, Nat.div_div_eq_div_mul]
      have t1 : ((P : Nat) : Int).tmod 8 = (R : Int) := by rw [Int.tmod_eq_emod_of_nonneg (by omega)]; omega
      have t2 : ((P : Nat) : Int).tdiv 8 = (Q : Int) := by rw [Int.tdiv_eq_ediv_of_nonneg (by omega)]; omega
      have t3 : ((P : Nat) : Int) % 8 = (R : Int) := by omega
      have t4 : ((P : Nat) : Int) / 8 = (Q : Int) := by omega
      have hPle : P ≤ pg := by rw [hP]; exact Nat.div_le_self _ _
      have hQ0 : (0 : Int) ≤ (Q : Int) := Int.natCast_nonneg _
      have hQ4 : (Q : Int) < 4096 := by omega
      have t5 : wrap64 (Q : Int) = Q := w64_id' _ (Int.le_trans (by decide) hQ0) (Int.lt_trans hQ4 (by decide))
      have t6 : IntKind.i64.wrap (Q : Int) = Q := IntWalk.i64_in _ ⟨Int.le_trans (by decide) hQ0, Int.le_trans (Int.le_of_lt hQ4) (by decide)⟩
      rw [← hP]
      have c0 : ∃ u, wr.cell? ⟨w.heap.size + 1, 2, none⟩ = some u := ⟨_, by rw [bcell hb]; rfl⟩
      obtain ⟨u, c0⟩ := c0
      have q0 := bfroz hb 2
      have F := Lib.hid (show DgR w pg (w.heap.size + 1) (.int .i64 (Q : Int)) (.int .i64 1) (wr.setCell ⟨w.heap.size + 1, 2, none⟩ (.int .i64 (R : Int))) from ⟨2, by omega, by rw [hn], rfl, hC.set (p := ⟨w.heap.size + 1, 2, none⟩) (.inr ho) _, ho, by
        have h2 := bset hb 2 (.int .i64 (R : Int))
        have h3 : (#[dcell pg 1 0, dcell pg 1 1, dcell pg 1 2, dcell pg 1 3] : Array Value).setIfInBounds 2 (.int .i64 (R : Int)) = #[dcell pg 2 0, dcell pg 2 1, dcell pg 2 2, dcell pg 2 3] := by rw [← hd]; rfl
        rw [h3] at h2
        exact h2, bfar hr (by show w.heap.size ≠ w.heap.size + 1; omega) _⟩)
      clear hb hr hC hP hd hn hR hQ hPle hQ0 hQ4
      go_wp2_with fail
      exact ⟨F.out, by simp [intOf]⟩
    · obtain ⟨P, hP⟩ : ∃ P, P = pg / 8 ^ 2 := ⟨_, rfl⟩
      obtain ⟨R, hR⟩ : ∃ R, R = P % 8 := ⟨_, rfl⟩
      obtain ⟨Q, hQ⟩ : ∃ Q, Q = P / 8 := ⟨_, rfl⟩
      have hd : dig pg 1 = R := by rw [hR, hP]; rfl
      have hn : pg / 8 ^ 3 = Q := by rw [hQ, hP, Nat.div_div_eq_div_mul]
      have t1 : ((P : Nat) : Int).tmod 8 = (R : Int) := by rw [Int.tmod_eq_emod_of_nonneg (by omega)]; omega
      have t2 : ((P : Nat) : Int).tdiv 8 = (Q : Int) := by rw [Int.tdiv_eq_ediv_of_nonneg (by omega)]; omega
      have t3 : ((P : Nat) : Int) % 8 = (R : Int) := by omega
      have t4 : ((P : Nat) : Int) / 8 = (Q : Int) := by omega
      have hPle : P ≤ pg := by rw [hP]; exact Nat.div_le_self _ _
      have hQ0 : (0 : Int) ≤ (Q : Int) := Int.natCast_nonneg _
      have hQ4 : (Q : Int) < 4096 := by omega
      have t5 : wrap64 (Q : Int) = Q := w64_id' _ (Int.le_trans (by decide) hQ0) (Int.lt_trans hQ4 (by decide))
      have t6 : IntKind.i64.wrap (Q : Int) = Q := IntWalk.i64_in _ ⟨Int.le_trans (by decide) hQ0, Int.le_trans (Int.le_of_lt hQ4) (by decide)⟩
      rw [← hP]
      have c0 : ∃ u, wr.cell? ⟨w.heap.size + 1, 1, none⟩ = some u := ⟨_, by rw [bcell hb]; rfl⟩
      obtain ⟨u, c0⟩ := c0
      have q0 := bfroz hb 1
      have F := Lib.hid (show DgR w pg (w.heap.size + 1) (.int .i64 (Q : Int)) (.int .i64 0) (wr.setCell ⟨w.heap.size + 1, 1, none⟩ (.int .i64 (R : Int))) from ⟨3, by omega, by rw [hn], rfl, hC.set (p := ⟨w.heap.size + 1, 1, none⟩) (.inr ho) _, ho, by
        have h2 := bset hb 1 (.int .i64 (R : Int))
        have h3 : (#[dcell pg 2 0, dcell pg 2 1, dcell pg 2 2, dcell pg 2 3] : Array Value).setIfInBounds 1 (.int .i64 (R : Int)) = #[dcell pg 3 0, dcell pg 3 1, dcell pg 3 2, dcell pg 3 3] := by rw [← hd]; rfl
        rw [h3] at h2
        exact h2, bfar hr (by show w.heap.size ≠ w.heap.size + 1; omega) _⟩)
      clear hb hr hC hP hd hn hR hQ hPle hQ0 hQ4
      go_wp2_with fail
      exact ⟨F.out, by simp [intOf]⟩
    · obtain ⟨P, hP⟩ : ∃ P, P = pg / 8 ^ 3 := ⟨_, rfl⟩
      obtain ⟨R, hR⟩ : ∃ R, R = P % 8 := ⟨_, rfl⟩
      obtain ⟨Q, hQ⟩ : ∃ Q, Q = P / 8 := ⟨_, rfl⟩
      have hd : dig pg 0 = R := by rw [hR, hP]; rfl
      have hn : pg / 8 ^ 4 = Q := by rw [hQ, hP, Nat.div_div_eq_div_mul]
      have t1 : ((P : Nat) : Int).tmod 8 = (R : Int) := by rw [Int.tmod_eq_emod_of_nonneg (by omega)]; omega
      have t2 : ((P : Nat) : Int).tdiv 8 = (Q : Int) := by rw [Int.tdiv_eq_ediv_of_nonneg (by omega)]; omega
      have t3 : ((P : Nat) : Int) % 8 = (R : Int) := by omega
      have t4 : ((P : Nat) : Int) / 8 = (Q : Int) := by omega
      have hPle : P ≤ pg := by rw [hP]; exact Nat.div_le_self _ _
      have hQ0 : (0 : Int) ≤ (Q : Int) := Int.natCast_nonneg _
      have hQ4 : (Q : Int) < 4096 := by omega
      have t5 : wrap64 (Q : Int) = Q := w64_id' _ (Int.le_trans (by decide) hQ0) (Int.lt_trans hQ4 (by decide))
      have t6 : IntKind.i64.wrap (Q : Int) = Q := IntWalk.i64_in _ ⟨Int.le_trans (by decide) hQ0, Int.le_trans (Int.le_of_lt hQ4) (by decide)⟩
      rw [← hP]
      have c0 : ∃ u, wr.cell? ⟨w.heap.size + 1, 0, none⟩ = some u := ⟨_, by rw [bcell hb]; rfl⟩
      obtain ⟨u, c0⟩ := c0
      have q0 := bfroz hb 0
      have F := Lib.hid (show DgR w pg (w.heap.size + 1) (.int .i64 (Q : Int)) (.int .i64 (-1)) (wr.setCell ⟨w.heap.size + 1, 0, none⟩ (.int .i64 (R : Int))) from ⟨4, by omega, by rw [hn], rfl, hC.set (p := ⟨w.heap.size + 1, 0, none⟩) (.inr ho) _, ho, by
        have h2 := bset hb 0 (.int .i64 (R : Int))
        have h3 : (#[dcell pg 3 0, dcell pg 3 1, dcell pg 3 2, dcell pg 3 3] : Array Value).setIfInBounds 0 (.int .i64 (R : Int)) = #[dcell pg 4 0, dcell pg 4 1, dcell pg 4 2, dcell pg 4 3] := by rw [← hd]; rfl
        rw [h3] at h2
        exact h2, bfar hr (by show w.heap.size ≠ w.heap.size + 1; omega) _⟩)
      clear hb hr hC hP hd hn hR hQ hPle hQ0 hQ4
      go_wp2_with fail
      exact ⟨F.out, by simp [intOf]⟩
    · have m0 : wr.cell? ⟨w.heap.size + 1, 0, none⟩ = some (.int .i64 ((dig pg 0 : Nat) : Int)) := by rw [bcell hb]; rfl
      have m1 : wr.cell? ⟨w.heap.size + 1, 1, none⟩ = some (.int .i64 ((dig pg 1 : Nat) : Int)) := by rw [bcell hb]; rfl
      have m2 : wr.cell? ⟨w.heap.size + 1, 2, none⟩ = some (.int .i64 ((dig pg 2 : Nat) : Int)) := by rw [bcell hb]; rfl
      have m3 : wr.cell? ⟨w.heap.size + 1, 3, none⟩ = some (.int .i64 ((dig pg 3 : Nat) : Int)) := by rw [bcell hb]; rfl
      have r0 : wr.cell? ⟨w.heap.size, 0, none⟩ = some (.int .i64 0) := by rw [bcell hr]; rfl
      have r1 : wr.cell? ⟨w.heap.size, 1, none⟩ = some (.int .i64 0) := by rw [bcell hr]; rfl
      have r2 : wr.cell? ⟨w.heap.size, 2, none⟩ = some (.int .i64 0) := by rw [bcell hr]; rfl
      have r3 : wr.cell? ⟨w.heap.size, 3, none⟩ = some (.int .i64 0) := by rw [bcell hr]; rfl
      have q0 := bfroz hr 0
      have q1 := bfroz hr 1
      have q2 := bfroz hr 2
      have q3 := bfroz hr 3
      have hC4 := ((((hC.set (p := ⟨w.heap.size, 0, none⟩) (.inr (Nat.le_refl _)) (Value.int .i64 ((dig pg 0 : Nat) : Int))).set (p := ⟨w.heap.size, 1, none⟩) (.inr (Nat.le_refl _)) (Value.int .i64 ((dig pg 1 : Nat) : Int))).set (p := ⟨w.heap.size, 2, none⟩) (.inr (Nat.le_refl _)) (Value.int .i64 ((dig pg 2 : Nat) : Int))).set (p := ⟨w.heap.size, 3, none⟩) (.inr (Nat.le_refl _)) (Value.int .i64 ((dig pg 3 : Nat) : Int)))
      have b4 := bset (bset (bset (bset hr 0 (Value.int .i64 ((dig pg 0 : Nat) : Int))) 1 (Value.int .i64 ((dig pg 1 : Nat) : Int))) 2 (Value.int .i64 ((dig pg 2 : Nat) : Int))) 3 (Value.int .i64 ((dig pg 3 : Nat) : Int))
      have F := Lib.hid (show DgPost w pg _ _ from ⟨rfl, hC4⟩)
      have HB := Lib.hid b4
      generalize dig pg 0 = g0 at *
      generalize dig pg 1 = g1 at *
      generalize dig pg 2 = g2 at *
      generalize dig pg 3 = g3 at *
      clear hb hr hC hC4 b4
      go_wp2_with fail
      refine bodyPost_ret (results_cell_row rfl _ _ w.heap.size 67 _ (0, 0) _ rfl HB.out Try.underlying67 rfl (by kernel_rfl)) rfl ?_
      exact F.out
end Go.Proofs.Ytimdojkhdneecaa.Tree

namespace Go.Proofs.Ytimdojkhdneecaa.Tree
open Go.RowKit Go.Proofs.Ytimdojkhdneecaa.Hp Go.Proofs.Ytimdojkhdneecaa.Ram Go.Proofs.Ytimdojkhdneecaa.Word Go.Proofs.Ytimdojkhdneecaa.WordP
set_option linter.unusedVariables false
set_option linter.unusedSimpArgs false
/-- a table's number -/
def numM (B : Nat → Nat → Int) (f n : Nat) : Int := leN (rdL B f (n * 8) 8)
def ByteB (B : Nat → Nat → Int) : Prop := ∀ f j, 0 ≤ B f j ∧ B f j < 256
theorem rdL_bytes {B : Nat → Nat → Int} (h : ByteB B) (f a m : Nat) : Bytes (rdL B f a m) := fun x hx => by
  unfold rdL at hx
  obtain ⟨j, _, rfl⟩ := List.mem_map.mp hx
  exact h f _
theorem rdL_congr {B B' : Nat → Nat → Int} {f a m : Nat} (h : ∀ j, a ≤ j → j < a + m → B f j = B' f j) : rdL B f a m = rdL B' f a m := by
  unfold rdL
  refine List.map_congr_left fun j hj => ?_
  rw [List.mem_range] at hj
  exact h _ (by omega) (by omega)
theorem rdL_upd (B : Nat → Nat → Int) (f a : Nat) (l : List Int) : rdL (upd B f a l) f a l.length = l := by
  unfold rdL
  apply List.ext_getElem
  · simp
  · intro i h1 h2
    simp only [List.getElem_map, List.getElem_range]
    unfold upd
    rw [if_pos ⟨rfl, by omega, by omega⟩, Nat.add_sub_cancel_left]
    simp [h2]
theorem numM_put (B : Nat → Nat → Int) (f n : Nat) (v : Int) (h0 : 0 ≤ v) (h1 : v < 18446744073709551616) (f' n' : Nat) : numM (upd B f (n * 8) (digs v 8)) f' n' = setM (numM B) f n v f' n' := by
  unfold numM setM
  by_cases c : f' = f ∧ n' = n
  · obtain ⟨rfl, rfl⟩ := c
    rw [if_pos ⟨rfl, rfl⟩]
    have := rdL_upd B f' (n' * 8) (digs v 8)
    rw [digs_length] at this
    rw [this, leN_digs v 8 h0]
    exact Int.emod_eq_of_lt h0 (by simpa using h1)
  · rw [if_neg c]
    congr 1
    refine rdL_congr fun j j1 j2 => ?_
    unfold upd
    rw [digs_length, if_neg (fun x => c ⟨x.1, by omega⟩)]
theorem numM_zero (B : Nat → Nat → Int) (f f' n' : Nat) (hn : n' < 8) : numM (upd B f 0 (List.replicate 64 0)) f' n' = zeroM (numM B) f f' n' := by
  unfold numM zeroM
  by_cases c : f' = f
  · subst c
    rw [if_pos rfl]
    have e : rdL (upd B f' 0 (List.replicate 64 0)) f' (n' * 8) 8 = List.replicate 8 0 := by
      unfold rdL
      apply List.ext_getElem
      · simp
      · intro i h1 h2
        simp only [List.length_map, List.length_range] at h1
        simp only [List.getElem_map, List.getElem_range]
        unfold upd
        rw [if_pos ⟨rfl, by omega, by simp; omega⟩]
        simp only [List.getElem_replicate]
        rw [List.getD_eq_getElem?_getD, List.getElem?_replicate]
        split <;> rfl
    rw [e]; rfl
  · rw [if_neg c]
    congr 1
    refine rdL_congr fun j j1 j2 => ?_
    unfold upd
    rw [if_neg (fun x => c x.1)]
theorem byte_put {B : Nat → Nat → Int} (h : ByteB B) (f a : Nat) (l : List Int) (hl : Bytes l) : ByteB (upd B f a l) := fun f' j => by
  unfold upd
  split
  · rename_i c
    rw [List.getD_eq_getElem?_getD, List.getElem?_eq_getElem (by omega)]
    exact hl _ (List.getElem_mem _)
  · exact h f' j
theorem numM_range {B : Nat → Nat → Int} (h : ByteB B) (f n : Nat) : 0 ≤ numM B f n ∧ numM B f n < 18446744073709551616 := by
  have := leN_range (rdL B f (n * 8) 8) (rdL_bytes h f _ _)
  rw [rdL_len] at this
  have h2 : leN (rdL B f (n * 8) 8) < 256 ^ 8 := this.2
  exact ⟨this.1, h2⟩
/-- a tree's block -/
def TBlk (w : World) (t pm p : Nat) (root : Nat) (ov : Value) : Prop := Blk w t #[.pointer (some ⟨pm, 0, none⟩), .pointer (some ⟨p, 0, none⟩), .int .i64 (root : Int), ov] 57
def NumPost (v : Int) (w : World) (e : Ending) (w' : World) : Prop := e = .returned (.tuple #[.int .u64 v, .int .i64 0]) ∧ Chg NoB w w'
set_option maxHeartbeats 4000000 in
theorem tget_any {w : World} {t pm p bl root : Nat} {ov : Value} {B : Nat → Nat → Int} {D : Nat → Bool} (f n : Nat) (ht : TBlk w t pm p root ov) (h : RRam w pm bl 1024 B D) (hB : ByteB B) (hf : f < 1024) (hn : n < 8) (hd : D f = false) :
    Calls Try.prog 31 #[.pointer (some ⟨t, 0, none⟩), .int .i64 (f : Int), .int .i64 (n : Int)] w (NumPost (numM B f n) w) := by
  have hrd := read_ok pm bl 1024 B D f (n * 8) 8 w h hf (by omega) hd
  rw [show ((n * 8 : Nat) : Int) = (n : Int) * 8 by omega, show ((8 : Nat) : Int) = 8 from rfl] at hrd
  have y0 : w.cell? ⟨t, 0, none⟩ = some (.pointer (some ⟨pm, 0, none⟩)) := by rw [bcell ht]; rfl
  have hby := rdL_bytes hB f (n * 8) 8
  have hl8 := rdL_len B f (n * 8) 8
  have HL := Lib.hid (And.intro hby hl8)
  have hnum : numM B f n = leN (rdL B f (n * 8) 8) := rfl
  rw [hnum]
  clear hby hl8 hnum ht h
  generalize rdL B f (n * 8) 8 = l at *
  go_enter Try.func31, Try.ntmps31
  go_wp2_with fail
  refine hrd.mono ?_
  rintro e w1 ⟨v, rfl, hown, hC⟩
  obtain ⟨A, c, rfl, hl, _, hr, _⟩ := own_rd hown (by rw [HL.out.2]; decide)
  have hg := get_yes A c l 0 8 w1 hr HL.out.1 (by decide) (by rw [HL.out.2]; decide)
  rw [List.drop_zero, List.take_of_length_le (Nat.le_of_eq HL.out.2)] at hg
  rw [HL.out.2] at hg ⊢
  clear hrd hown hl hr y0
  go_wp2_with fail
  refine hg.mono ?_
  rintro e w2 ⟨rfl, rfl⟩
  clear hg
  go_wp2_with fail
  go_ret2
  exact ⟨rfl, hC⟩
end Go.Proofs.Ytimdojkhdneecaa.Tree

namespace Go.Proofs.Ytimdojkhdneecaa.Tree
open Go.RowKit Go.Proofs.Ytimdojkhdneecaa.Hp Go.Proofs.Ytimdojkhdneecaa.Ram Go.Proofs.Ytimdojkhdneecaa.Word Go.Proofs.Ytimdojkhdneecaa.WordP
set_option linter.unusedVariables false
set_option linter.unusedSimpArgs false
theorem make8 (w : World) : (Instr.makeSlice 98 (.int .i64 8) (.int .i64 8)).run Try.prog w = .ok (.slice (some ⟨w.heap.size, 0, none⟩) 8 8) (w.alloc (.cells (Array.replicate 8 (.int .u8 0)) 5)) :=
  run_make1 (P := Try.prog) 98 5 (.int .u8 0) 1 Try.underlying98 info8 rfl 8 (by decide) (by decide) (by decide) w
theorem spl_whole (v : Int) : spl (List.replicate 8 0) 0 (digs v 8) = digs v 8 := by
  unfold spl
  rw [List.take_zero, List.nil_append, digs_length, List.drop_of_length_le (by simp), List.append_nil]
def PutTo (pm bl : Nat) (B : Nat → Nat → Int) (D : Nat → Bool) (w : World) (e : Ending) (w' : World) : Prop := e = .returned (.tuple #[]) ∧ RRam w' pm bl 1024 B D ∧ Chg (· = bl) w w'
set_option maxHeartbeats 4000000 in
theorem tput_any {w : World} {t pm p bl root : Nat} {ov : Value} {B : Nat → Nat → Int} {D : Nat → Bool} (f n : Nat) (v : Int) (ht : TBlk w t pm p root ov) (h : RRam w pm bl 1024 B D) (hf : f < 1024) (hn : n < 8) (hd : D f = false) (h0 : 0 ≤ v) (h1 : v < 18446744073709551616) :
    Calls Try.prog 32 #[.pointer (some ⟨t, 0, none⟩), .int .i64 (f : Int), .int .i64 (n : Int), .int .u64 v] w (PutTo pm bl (upd B f (n * 8) (digs v 8)) D w) := by
  have hmk := make8 w
  have cA : Chg NoB w (w.alloc (.cells (Array.replicate 8 (.int .u8 0)) 5)) := (Chg.refl NoB w).alloc _
  have hin : InB (w.alloc (.cells (Array.replicate 8 (.int .u8 0)) 5)) w.heap.size 0 (Array.replicate 8 (.int .u8 0)) 5 (List.replicate 8 0) := ⟨bnew w _, by simp, fun j hj => by
    rw [List.length_replicate] at hj
    rw [Nat.zero_add, Array.getElem?_replicate, if_pos hj, List.getD_eq_getElem?_getD, List.getElem?_replicate, if_pos hj]; rfl⟩
  have hp := put_yes w.heap.size 0 8 _ _ (List.replicate 8 0) 0 8 v _ hin (by simp) h0 h1 (by decide) (by simp)
  rw [spl_whole, List.length_replicate, show ((0 : Nat) : Int) = 0 from rfl, show ((8 : Nat) : Int) = 8 from rfl] at hp
  have hl1 := blt h.st
  obtain ⟨C, hC, _⟩ := h.xs
  have hl2 := blt hC
  have hl3 := blt ht
  have H := Lib.hid (And.intro h (And.intro ht (And.intro cA (And.intro hf (And.intro hn hd)))))
  clear h ht hC hin cA
  go_enter Try.func32, Try.ntmps32
  go_wp2_with fail
  refine hp.mono ?_
  rintro e w1 ⟨C', rfl, hin, _, hC1⟩
  have hc : Chg NoB w w1 := H.out.2.2.1.trans hC1 (fun i hi x => by have : i = w.heap.size := x; omega)
  have hr1 := H.out.1.chg hc (fun x => x) (fun x => x)
  have b1 := hc.blk (show Blk w t _ _ from H.out.2.1) (fun x => x)
  have y0 : w1.cell? ⟨t, 0, none⟩ = some (.pointer (some ⟨pm, 0, none⟩)) := by rw [bcell b1]; rfl
  have hrd := hin.rd (by rw [digs_length]; decide)
  have hw := write_ok pm bl 1024 B D f (n * 8) (some ⟨w.heap.size, 0, none⟩) 8 (digs v 8) w1 hr1 hf (by rw [digs_length]; omega) hd hrd
  rw [digs_length, show ((n * 8 : Nat) : Int) = (n : Int) * 8 by omega] at hw
  have HC := Lib.hid hc
  clear hp hin hC1 hc hr1 b1 hrd
  go_wp2_with fail
  refine hw.mono ?_
  rintro e w2 ⟨rfl, hr2, hC2⟩
  have F := Lib.hid (show PutTo pm bl (upd B f (n * 8) (digs v 8)) D w (.returned (.tuple #[])) w2 from ⟨rfl, hr2, (HC.out.mono (fun _ _ x => x.elim)).trans hC2 (fun _ _ x => x)⟩)
  clear hw hr2 hC2
  go_wp2_with fail
  refine bodyPost_ret (results_none rfl _ _ _) rfl ?_
  exact F.out
end Go.Proofs.Ytimdojkhdneecaa.Tree

namespace Go.Proofs.Ytimdojkhdneecaa.Tree
open Go.RowKit Go.Proofs.Ytimdojkhdneecaa.Hp Go.Proofs.Ytimdojkhdneecaa.Ram Go.Proofs.Ytimdojkhdneecaa.Word Go.Proofs.Ytimdojkhdneecaa.WordP Go.Proofs.Ytimdojkhdneecaa.Pool
set_option linter.unusedVariables false
set_option linter.unusedSimpArgs false
def useF (S : PS) (f : Nat) (u : Int) : PS := { S with U := Pool.upd S.U f u }
def AllocTo (w0 w : World) (p b bi : Nat) (S : PS) (e : Ending) (w' : World) : Prop :=
  Chg (fun i => i = p ∨ i = bi) w w' ∧ ((∃ f : Nat, f < 1024 ∧ S.U f = 1 ∧ e = .returned (.tuple #[.int .i64 (f : Int), .int .i64 0]) ∧ PL w0 w' p b bi (useF S f 2)) ∨ (e = .returned (.tuple #[.int .i64 0, .int .i64 4]) ∧ PL w0 w' p b bi S ∧ ∀ f, f < 1024 → S.Z (f / 32) = 2 → S.I (f / 32) = false → S.U f ≠ 1))
theorem alloc_tab {w0 w : World} {p b bi : Nat} {S : PS} (h : PL w0 w p b bi S) : Calls Try.prog 47 #[.pointer (some ⟨p, 0, none⟩), .int .i64 2, .int .i64 0, .bool false] w (AllocTo w0 w p b bi S) := by
  refine (alloc_any p b bi S.U S.Z S.I 2 0 false w h.at_).mono ?_
  rintro e w' (⟨g, _⟩ | ⟨_, f, ok, hs, rfl, hp, hC⟩)
  · exact absurd (show ArgOk 2 0 by unfold ArgOk; decide) g
  · refine ⟨hC, ?_⟩
    have e1 : (2 : Nat) ^ Int.toNat 0 = 1 := rfl
    rw [e1] at hs hp
    cases ok with
    | true =>
      left
      rcases hs with ⟨_, ⟨x, _⟩ | ⟨_, hg, _⟩⟩ | ⟨x, _⟩
      · cases x
      · obtain ⟨_, hle, _, _, hu⟩ := hg
        refine ⟨f, by omega, by have := hu 0 (by decide); rwa [Nat.add_zero] at this, rfl, h.go ?_ hC⟩
        have e2 : allocU S.U f (if true = true then 1 else 0) 2 = Pool.upd S.U f 2 := by
          funext g
          rw [if_pos rfl]
          unfold allocU Pool.upd
          by_cases c : g = f
          · rw [if_pos c, if_pos ⟨by omega, by omega⟩]
          · rw [if_neg c, if_neg (by omega)]
        rw [e2] at hp
        exact hp
      · cases x
    | false =>
      right
      rcases hs with ⟨x, _⟩ | ⟨_, rfl, _, hno⟩
      · cases x
      · rw [if_neg (by decide), allocU_zero] at hp
        refine ⟨rfl, h.go hp hC, fun f hf hz hi hu => hno f ⟨Nat.mod_one f, by omega, hz, hi, fun k hk => by
          obtain rfl : k = 0 := by omega
          exact hu⟩⟩
end Go.Proofs.Ytimdojkhdneecaa.Tree

namespace Go.Proofs.Ytimdojkhdneecaa.Tree
open Go.RowKit Go.Proofs.Ytimdojkhdneecaa.Hp Go.Proofs.Ytimdojkhdneecaa.Ram Go.Proofs.Ytimdojkhdneecaa.Word Go.Proofs.Ytimdojkhdneecaa.WordP Go.Proofs.Ytimdojkhdneecaa.Pool
set_option linter.unusedVariables false
set_option linter.unusedSimpArgs false
def ownV (own : List Nat) : List Value := own.map (fun f : Nat => Value.int .i64 (f : Int))
structure TL (w0 w : World) (pm bl p b bi t : Nat) (S : PS) (B : Nat → Nat → Int) (root : Nat) (own : List Nat) (ov : Value) : Prop where
  pl : PL w0 w p b bi S
  rm : RRam w pm bl 1024 B (fun _ => false)
  st : TBlk w t pm p root ov
  row : w.ownsRow w0.heap.size 3 1 ov own.length (ownV own)
  by_ : ByteB B
  lo : w0.heap.size ≤ pm ∧ w0.heap.size ≤ bl ∧ w0.heap.size ≤ t
  n1 : pm ≠ p ∧ pm ≠ bi ∧ pm ≠ b ∧ bl ≠ p ∧ bl ≠ bi ∧ bl ≠ b ∧ t ≠ p ∧ t ≠ bi ∧ t ≠ b ∧ t ≠ pm ∧ t ≠ bl
  n2 : ∀ g, ov.ownBlock = some g → g ≠ p ∧ g ≠ bi ∧ g ≠ b ∧ g ≠ pm ∧ g ≠ bl ∧ g ≠ t
def TX (p bi bl t : Nat) (ov : Value) (i : Nat) : Prop := i = p ∨ i = bi ∨ i = bl ∨ i = t ∨ ov.ownBlock = some i
section
variable {w0 w w' : World} {pm bl p b bi t : Nat} {S S' : PS} {B B' : Nat → Nat → Int} {root : Nat} {own : List Nat} {ov : Value}
/-- the pool did something -/
theorem TL.pool (h : TL w0 w pm bl p b bi t S B root own ov) (hp : PL w0 w' p b bi S') (hc : Chg (fun i => i = p ∨ i = bi) w w') : TL w0 w' pm bl p b bi t S' B root own ov := by
  obtain ⟨a1, a2, a3, a4, a5, a6, a7, a8, a9, a10, a11⟩ := h.n1
  exact ⟨hp, h.rm.chg hc (fun x => x.elim a1 a2) (fun x => x.elim a4 a5), hc.blk (show Blk w t _ _ from h.st) (fun x => x.elim a7 a8), Own.own_chg h.row hc (fun g hg x => x.elim (h.n2 g hg).1 (h.n2 g hg).2.1), h.by_, h.lo, h.n1, h.n2⟩
/-- the memory did something -/
theorem TL.ram (h : TL w0 w pm bl p b bi t S B root own ov) (hr : RRam w' pm bl 1024 B' (fun _ => false)) (hb : ByteB B') (hc : Chg (· = bl) w w') : TL w0 w' pm bl p b bi t S B' root own ov := by
  obtain ⟨a1, a2, a3, a4, a5, a6, a7, a8, a9, a10, a11⟩ := h.n1
  have hp : PL w0 w' p b bi S := ⟨h.pl.at_.chg hc (fun x => a4 x.symm) (fun x => a6 x.symm) (fun x => a5 x.symm), h.pl.ch.trans hc (fun i hi x => by have : i = bl := x; have := h.lo.2.1; omega), h.pl.lp, h.pl.lb, h.pl.li⟩
  exact ⟨hp, hr, hc.blk (show Blk w t _ _ from h.st) a11, Own.own_chg h.row hc (fun g hg x => (h.n2 g hg).2.2.2.2.1 x), hb, h.lo, h.n1, h.n2⟩
theorem TL.keep (h : TL w0 w pm bl p b bi t S B root own ov) (hc : Chg NoB w w') : TL w0 w' pm bl p b bi t S B root own ov :=
  ⟨h.pl.keep hc, h.rm.chg hc (fun x => x) (fun x => x), hc.blk (show Blk w t _ _ from h.st) (fun x => x), Own.own_chg h.row hc (fun _ _ x => x), h.by_, h.lo, h.n1, h.n2⟩
theorem own_form {n : Nat} {e : TypeId} {v : Value} {xs : List Value} (h : w.ownsRow w0.heap.size e 1 v n xs) : ∃ A c, v = .slice A n c := by
  rcases h.2 with ⟨rfl, h0⟩ | ⟨g, cap, cur, rfl, _⟩
  · exact ⟨none, 0, by rw [h0]⟩
  · exact ⟨_, _, rfl⟩
theorem TL.push {w3 : World} {f : Nat} {v' : Value} (h : TL w0 w pm bl p b bi t S B root own ov) (h4 : w3.ownsRow w0.heap.size 3 1 v' (own.length + 1) (ownV own ++ [.int .i64 (f : Int)])) (hc : Chg (fun i => ov.ownBlock = some i) w w3) (hw : ∀ g, v'.ownBlock = some g → ov.ownBlock = some g ∨ w.heap.size ≤ g) :
    TL w0 (w3.setCell ⟨t, 3, none⟩ v') pm bl p b bi t S B root (own ++ [f]) v' ∧ Chg (fun i => i = t ∨ ov.ownBlock = some i) w (w3.setCell ⟨t, 3, none⟩ v') := by
  obtain ⟨a1, a2, a3, a4, a5, a6, a7, a8, a9, a10, a11⟩ := h.n1
  have lt_ : t < w.heap.size := blt (show Blk w t _ _ from h.st)
  have hst3 := hc.blk (show Blk w t _ _ from h.st) (fun x => (h.n2 t x).2.2.2.2.2 rfl)
  have hC : Chg (fun i => i = t ∨ ov.ownBlock = some i) w (w3.setCell ⟨t, 3, none⟩ v') := (hc.mono (fun i _ x => .inr x)).set (p := ⟨t, 3, none⟩) (.inl (.inl rfl)) v'
  have hst := bset (show Blk w3 t _ _ from hst3) 3 v'
  have no : ∀ g, (g = p ∨ g = bi ∨ g = b ∨ g = pm ∨ g = bl) → ¬ (g = t ∨ ov.ownBlock = some g) := fun g hg x => by
    rcases x with rfl | x
    · rcases hg with y | y | y | y | y
      · exact a7 y
      · exact a8 y
      · exact a9 y
      · exact a10 y
      · exact a11 y
    · have n := h.n2 g x
      rcases hg with y | y | y | y | y
      · exact n.1 y
      · exact n.2.1 y
      · exact n.2.2.1 y
      · exact n.2.2.2.1 y
      · exact n.2.2.2.2.1 y
  have hbig : ∀ g, ov.ownBlock = some g → w0.heap.size ≤ g := fun g hg => (Own.own_ge h.row g hg).1
  have hn2 : ∀ g, v'.ownBlock = some g → g ≠ p ∧ g ≠ bi ∧ g ≠ b ∧ g ≠ pm ∧ g ≠ bl ∧ g ≠ t := fun g hg => by
    rcases hw g hg with x | x
    · exact h.n2 g x
    · have l0 := blt h.pl.at_.fr.st
      have l1 := blt h.pl.at_.fr.xs
      obtain ⟨C, l3, _⟩ := h.pl.at_.st
      have l3 := blt l3
      have l4 := blt h.rm.st
      obtain ⟨C2, l5, _⟩ := h.rm.xs
      have l5 := blt l5
      exact ⟨by omega, by omega, by omega, by omega, by omega, by omega⟩
  have e : ownV (own ++ [f]) = ownV own ++ [.int .i64 (f : Int)] := by unfold ownV; rw [List.map_append]; rfl
  refine ⟨⟨⟨h.pl.at_.chg hC (no p (.inl rfl)) (no b (.inr (.inr (.inl rfl)))) (no bi (.inr (.inl rfl))), h.pl.ch.trans hC (fun i hi x => ?_), h.pl.lp, h.pl.lb, h.pl.li⟩, h.rm.chg hC (no pm (.inr (.inr (.inr (.inl rfl))))) (no bl (.inr (.inr (.inr (.inr rfl))))), hst, ?_, h.by_, h.lo, h.n1, hn2⟩, hC⟩
  · rcases x with rfl | x
    · have := h.lo.2.2; omega
    · have := hbig i x; omega
  · rw [e, List.length_append, List.length_singleton]
    exact Own.own_chg h4 ((Chg.refl (· = t) w3).set (p := ⟨t, 3, none⟩) (.inl rfl) v') (fun g hg x => (hn2 g hg).2.2.2.2.2 x)
end
end Go.Proofs.Ytimdojkhdneecaa.Tree

namespace Go.Proofs.Ytimdojkhdneecaa.Tree
open Go.RowKit Go.Proofs.Ytimdojkhdneecaa.Hp Go.Proofs.Ytimdojkhdneecaa.Ram Go.Proofs.Ytimdojkhdneecaa.Word Go.Proofs.Ytimdojkhdneecaa.WordP Go.Proofs.Ytimdojkhdneecaa.Pool
set_option linter.unusedVariables false
set_option linter.unusedSimpArgs false
theorem info_int : (Try.prog.info? 3).map (fun i => (i.zero, i.size, i.bytes)) = some (some (.int .i64 0), 1, 8) := by kernel_rfl
def TabTo (w0 w : World) (pm bl p b bi t : Nat) (S : PS) (B : Nat → Nat → Int) (root : Nat) (own : List Nat) (ov : Value) (e : Ending) (w' : World) : Prop :=
  Chg (TX p bi bl t ov) w w' ∧ ((∃ f ov', f < 1024 ∧ S.U f = 1 ∧ e = .returned (.tuple #[.int .i64 (f : Int), .int .i64 0]) ∧ TL w0 w' pm bl p b bi t (useF S f 2) (upd B f 0 (List.replicate 64 0)) root (own ++ [f]) ov' ∧ ∀ g, ov'.ownBlock = some g → ov.ownBlock = some g ∨ w.heap.size ≤ g) ∨
    (e = .returned (.tuple #[.int .i64 0, .int .i64 4]) ∧ TL w0 w' pm bl p b bi t S B root own ov ∧ ∀ f, f < 1024 → S.Z (f / 32) = 2 → S.I (f / 32) = false → S.U f ≠ 1))
set_option maxHeartbeats 4000000 in
theorem ttable_any {w0 w : World} {pm bl p b bi t : Nat} {S : PS} {B : Nat → Nat → Int} {root : Nat} {own : List Nat} {ov : Value} (h : TL w0 w pm bl p b bi t S B root own ov) (hlen : own.length ≤ 1024) :
    Calls Try.prog 25 #[.pointer (some ⟨t, 0, none⟩)] w (TabTo w0 w pm bl p b bi t S B root own ov) := by
  have hal := alloc_tab h.pl
  have y1 : w.cell? ⟨t, 1, none⟩ = some (.pointer (some ⟨p, 0, none⟩)) := by rw [bcell h.st]; rfl
  have H := Lib.hid h
  clear h
  go_enter Try.func25, Try.ntmps25
  go_wp2_with fail
  refine hal.mono ?_
  rintro e w1 ⟨hC, ⟨f, hf, hu, rfl, hp⟩ | ⟨rfl, hp, hno⟩⟩
  · have h1 := H.out.pool hp hC
    have hzo := zero_ok pm bl 1024 B (fun _ => false) f w1 h1.rm hf rfl
    have y0 : w1.cell? ⟨t, 0, none⟩ = some (.pointer (some ⟨pm, 0, none⟩)) := by rw [bcell h1.st]; rfl
    have H1 := Lib.hid (And.intro h1 (And.intro hC hu))
    clear hal y1 hp h1 hC hu
    go_wp2_with fail
    refine hzo.mono ?_
    rintro e w2 ⟨rfl, hr2, hC2⟩
    have h2 := H1.out.1.ram hr2 (byte_put H1.out.1.by_ f 0 _ (fun x hx => by rw [List.eq_of_mem_replicate hx]; decide)) hC2
    obtain ⟨A, c, hov⟩ := own_form h2.row
    have y3 : w2.cell? ⟨t, 3, none⟩ = some ov := by rw [bcell h2.st]; rfl
    have q3 := bfroz h2.st 3
    have hbase := h2.pl.ch.size
    have hown := h2.row
    have H2 := Lib.hid (And.intro h2 hC2)
    clear hzo y0 hr2 hC2 h2
    subst hov
    have hl1 : own.length + 1 ≤ 9223372036854775807 := Nat.le_trans (Nat.succ_le_succ hlen) (by decide)
    have hl2 : (own.length + 1) * 8 ≤ 140737488355328 := Nat.le_trans (Nat.mul_le_mul_right 8 (Nat.succ_le_succ hlen)) (by decide)
    have fin : ∀ v' w3, w3.ownsRow w0.heap.size 3 1 v' (own.length + 1) (ownV own ++ [.int .i64 (f : Int)]) → Chg (fun i => (Value.slice A own.length c).ownBlock = some i) w2 w3 → (∀ g, v'.ownBlock = some g → (Value.slice A own.length c).ownBlock = some g ∨ w2.heap.size ≤ g) → TabTo w0 w pm bl p b bi t S B root own (.slice A own.length c) (.returned (.tuple #[.int .i64 (f : Int), .int .i64 0])) (w3.setCell ⟨t, 3, none⟩ v') ∧ w3.cell? ⟨t, 3, none⟩ = some (.slice A own.length c) ∧ w3.frozen? ⟨t, 3, none⟩ = false := fun v' w3 k1 k2 k3 => by
      obtain ⟨m1, m2⟩ := H2.out.1.push k1 k2 k3
      have hst3 := k2.blk (show Blk w2 t _ _ from H2.out.1.st) (fun x => (H2.out.1.n2 t x).2.2.2.2.2 rfl)
      have z1 := H1.out.2.1.size
      have z2 := H2.out.2.size
      refine ⟨⟨?_, .inl ⟨f, v', hf, H1.out.2.2, rfl, m1, fun g hg => (k3 g hg).imp id (fun x => by omega)⟩⟩, by rw [bcell hst3]; rfl, bfroz hst3 3⟩
      exact ((H1.out.2.1.mono (fun i _ x => x.elim (fun y => .inl y) (fun y => .inr (.inl y)) : ∀ i, i < w.heap.size → _ → TX p bi bl t (.slice A own.length c) i)).trans H2.out.2 (fun i _ x => .inr (.inr (.inl x)))).trans m2 (fun i _ x => x.elim (fun y => .inr (.inr (.inr (.inl y)))) (fun y => .inr (.inr (.inr (.inr y)))))
    have FI := Lib.hid fin
    clear fin
    go_wp2_with (first | (at_builtin; go_loud (refine Own.append_own3 (w := w2) (base := w0.heap.size) rfl (.tmp 37) (.tmp 39) 34 3 rfl (.int .i64 0) 8 Try.underlying34 info_int rfl (.slice A own.length c) own.length (ownV own) (by rfl) hbase hown (.int .i64 (f : Int)) 3 (by rfl) rfl hl1 hl2 ?_); intro v' w3 hown' hCo hwh; obtain ⟨A4, c4, rfl⟩ := own_form hown'; obtain ⟨F, y4, q4⟩ := FI.out _ w3 hown' hCo hwh) | go_in)
    go_ret2
    exact F
  · have h1 := H.out.pool hp hC
    have F := Lib.hid (show TabTo w0 w pm bl p b bi t S B root own ov (.returned (.tuple #[.int .i64 0, .int .i64 4])) w1 from ⟨hC.mono (fun i _ x => x.elim (fun y => .inl y) (fun y => .inr (.inl y))), .inr ⟨rfl, h1, hno⟩⟩)
    clear hal y1 hp h1 hC hno
    go_wp2_with fail
    go_ret2
    exact F.out
end Go.Proofs.Ytimdojkhdneecaa.Tree

namespace Go.Proofs.Ytimdojkhdneecaa.Tree
open Go.RowKit Go.Proofs.Ytimdojkhdneecaa.Hp Go.Proofs.Ytimdojkhdneecaa.Ram Go.Proofs.Ytimdojkhdneecaa.Word Go.Proofs.Ytimdojkhdneecaa.WordP Go.Proofs.Ytimdojkhdneecaa.Pool
set_option linter.unusedVariables false
set_option linter.unusedSimpArgs false
theorem may_nil (pg : Int) (w : World) : Calls Try.prog 26 #[.pointer none, .int .i64 pg] w fun e w' => e = .returned (.int .i64 1) ∧ w = w' := by
  go_enter Try.func26, Try.ntmps26
  go_wp2_with fail
  go_ret
  exact ⟨rfl, rfl⟩
def mayE (pg : Int) (n : Nat) : Int := if pg < 0 ∨ 4096 ≤ pg then 1 else if n = 0 then 2 else 0
theorem may_any {w : World} {t pm p root n c : Nat} {A : Option Addr} (pg : Int) (h : TBlk w t pm p root (.slice A n c)) : Calls Try.prog 26 #[.pointer (some ⟨t, 0, none⟩), .int .i64 pg] w fun e w' => e = .returned (.int .i64 (mayE pg n)) ∧ w = w' := by
  have y3 : w.cell? ⟨t, 3, none⟩ = some (.slice A n c) := by rw [bcell h]; rfl
  by_cases h0 : pg < 0
  · have d0 : decide (pg < 0) = true := decide_eq_true h0
    have e : mayE pg n = 1 := if_pos (.inl h0)
    rw [e]
    clear h h0 e
    go_enter Try.func26, Try.ntmps26
    go_wp2_with fail
    go_ret
    exact ⟨rfl, rfl⟩
  · have d0 : decide (pg < 0) = false := decide_eq_false h0
    by_cases h1 : 4096 ≤ pg
    · have d1 : decide (4096 ≤ pg) = true := decide_eq_true h1
      have e : mayE pg n = 1 := if_pos (.inr h1)
      rw [e]
      clear h h0 h1 e
      go_enter Try.func26, Try.ntmps26
      go_wp2_with fail
      go_ret
      exact ⟨rfl, rfl⟩
    · have d1 : decide (4096 ≤ pg) = false := decide_eq_false h1
      by_cases h2 : n = 0
      · have d2 : ((n : Int) == 0) = true := by rw [beq_iff_eq]; omega
        have e : mayE pg n = 2 := by unfold mayE; rw [if_neg (fun x => x.elim h0 h1), if_pos h2]
        rw [e]
        clear h h0 h1 h2 e
        go_enter Try.func26, Try.ntmps26
        go_wp2_with fail
        go_ret
        exact ⟨rfl, rfl⟩
      · have d2 : ((n : Int) == 0) = false := by rw [beq_eq_false_iff_ne]; omega
        have e : mayE pg n = 0 := by unfold mayE; rw [if_neg (fun x => x.elim h0 h1), if_neg h2]
        rw [e]
        clear h h0 h1 h2 e
        go_enter Try.func26, Try.ntmps26
        go_wp2_with fail
        go_ret
        exact ⟨rfl, rfl⟩
theorem owns_nil (f : Int) (w : World) : Calls Try.prog 15 #[.pointer none, .int .i64 f] w fun e w' => e = .returned (.bool false) ∧ w = w' := by
  go_enter Try.func15, Try.ntmps15
  go_wp2_with fail
  go_ret
  exact ⟨rfl, rfl⟩
/-- the list of all tables, as numbers -/
def ownI (own : List Nat) : List Int := own.map (fun f : Nat => (f : Int))
theorem own_rdI {w : World} {base n : Nat} {own : List Nat} {v : Value} (h : w.ownsRow base 3 1 v n (ownV own)) (hn : n ≤ 140737488351232) : ∃ A c, v = .slice A n c ∧ own.length = n ∧ Rd w .i64 A (ownI own) ∧ Off A (fun i => i < base) := by
  have e : ownV own = (ownI own).map (Value.int .i64) := by unfold ownV ownI; rw [List.map_map]; rfl
  rw [e] at h
  obtain ⟨A, c, rfl, hl, _, hr, ho⟩ := own_rd h hn
  exact ⟨A, c, rfl, by simpa [ownI] using hl, hr, ho⟩
theorem owns_any {w0 w : World} {pm bl p b bi t : Nat} {S : PS} {B : Nat → Nat → Int} {root : Nat} {own : List Nat} {ov : Value} (f : Int) (h : TL w0 w pm bl p b bi t S B root own ov) (hlen : own.length ≤ 1024) : Calls Try.prog 15 #[.pointer (some ⟨t, 0, none⟩), .int .i64 f] w fun e w' => e = .returned (.bool (decide (f ∈ ownI own))) ∧ w = w' := by
  obtain ⟨A, c, e, _, hr, _⟩ := own_rdI h.row (Nat.le_trans hlen (by decide))
  have y3 : w.cell? ⟨t, 3, none⟩ = some ov := by rw [bcell h.st]; rfl
  have hc := contains_any A c (ownI own) f w hr
  rw [show (ownI own).length = own.length by simp [ownI]] at hc
  subst e
  clear h hr hlen
  go_enter Try.func15, Try.ntmps15
  go_wp2_with fail
  refine hc.mono ?_
  rintro e w1 ⟨rfl, rfl⟩
  clear hc
  go_wp2_with fail
  go_ret
  exact ⟨rfl, rfl⟩
end Go.Proofs.Ytimdojkhdneecaa.Tree

namespace Go.Proofs.Ytimdojkhdneecaa.Tree
open Go.RowKit Go.Proofs.Ytimdojkhdneecaa.Hp Go.Proofs.Ytimdojkhdneecaa.Ram Go.Proofs.Ytimdojkhdneecaa.Word Go.Proofs.Ytimdojkhdneecaa.WordP Go.Proofs.Ytimdojkhdneecaa.Pool
set_option linter.unusedVariables false
set_option linter.unusedSimpArgs false
theorem TL.setRoot {w0 w : World} {pm bl p b bi t : Nat} {S : PS} {B : Nat → Nat → Int} {root r : Nat} {own : List Nat} {ov : Value} (h : TL w0 w pm bl p b bi t S B root own ov) : TL w0 (w.setCell ⟨t, 2, none⟩ (.int .i64 (r : Int))) pm bl p b bi t S B r own ov ∧ Chg (· = t) w (w.setCell ⟨t, 2, none⟩ (.int .i64 (r : Int))) := by
  obtain ⟨a1, a2, a3, a4, a5, a6, a7, a8, a9, a10, a11⟩ := h.n1
  have hC : Chg (· = t) w (w.setCell ⟨t, 2, none⟩ (.int .i64 (r : Int))) := (Chg.refl (· = t) w).set (p := ⟨t, 2, none⟩) (.inl rfl) _
  refine ⟨⟨⟨h.pl.at_.chg hC (fun x => a7 x.symm) (fun x => a9 x.symm) (fun x => a8 x.symm), h.pl.ch.trans hC (fun i hi x => by have : i = t := x; have := h.lo.2.2; omega), h.pl.lp, h.pl.lb, h.pl.li⟩, h.rm.chg hC (fun x => a10 x.symm) (fun x => a11 x.symm), bset (show Blk w t _ _ from h.st) 2 _, Own.own_chg h.row hC (fun g hg x => (h.n2 g hg).2.2.2.2.2 x), h.by_, h.lo, h.n1, h.n2⟩, hC⟩
def NewTo (w0 w : World) (pm bl p b bi : Nat) (S : PS) (B : Nat → Nat → Int) (e : Ending) (w' : World) : Prop :=
  Chg (fun i => i = p ∨ i = bi ∨ i = bl) w w' ∧ ((∃ t f ov', f < 1024 ∧ S.U f = 1 ∧ w.heap.size ≤ t ∧ e = .returned (.tuple #[.pointer (some ⟨t, 0, none⟩), .int .i64 0]) ∧ TL w0 w' pm bl p b bi t (useF S f 2) (upd B f 0 (List.replicate 64 0)) f [f] ov' ∧ ∀ g, ov'.ownBlock = some g → w.heap.size ≤ g) ∨
    (e = .returned (.tuple #[.pointer none, .int .i64 4]) ∧ PL w0 w' p b bi S ∧ RRam w' pm bl 1024 B (fun _ => false) ∧ ∀ f, f < 1024 → S.Z (f / 32) = 2 → S.I (f / 32) = false → S.U f ≠ 1))
set_option maxHeartbeats 4000000 in
theorem tnew_any {w0 w : World} {pm bl p b bi : Nat} {S : PS} {B : Nat → Nat → Int} (hp : PL w0 w p b bi S) (hr : RRam w pm bl 1024 B (fun _ => false)) (hB : ByteB B) (lo : w0.heap.size ≤ pm ∧ w0.heap.size ≤ bl) (hn : pm ≠ p ∧ pm ≠ bi ∧ pm ≠ b ∧ bl ≠ p ∧ bl ≠ bi ∧ bl ≠ b) :
    Calls Try.prog 9 #[.pointer (some ⟨pm, 0, none⟩), .pointer (some ⟨p, 0, none⟩)] w (NewTo w0 w pm bl p b bi S B) := by
  have l0 := blt hp.at_.fr.st
  have l1 := blt hp.at_.fr.xs
  obtain ⟨C, l3, _⟩ := hp.at_.st
  have l3 := blt l3
  have l4 := blt hr.st
  obtain ⟨C2, l5, _⟩ := hr.xs
  have l5 := blt l5
  have lz := hp.ch.size
  have cA : Chg NoB w (w.alloc (.cells #[.pointer (some ⟨pm, 0, none⟩), .pointer (some ⟨p, 0, none⟩), .int .i64 0, .slice none 0 0] 57)) := (Chg.refl NoB w).alloc _
  have hT : TL w0 (w.alloc (.cells #[.pointer (some ⟨pm, 0, none⟩), .pointer (some ⟨p, 0, none⟩), .int .i64 0, .slice none 0 0] 57)) pm bl p b bi w.heap.size S B 0 [] (.slice none 0 0) := ⟨hp.keep cA, hr.chg cA (fun x => x) (fun x => x), bnew w _, World.ownsRow_nil _ _ _ _, hB, ⟨lo.1, lo.2, lz⟩, ⟨hn.1, hn.2.1, hn.2.2.1, hn.2.2.2.1, hn.2.2.2.2.1, hn.2.2.2.2.2, by omega, by omega, by omega, by omega, by omega⟩, fun g hg => by simp [Value.ownBlock] at hg⟩
  have htb := ttable_any hT (Nat.zero_le _)
  have H := Lib.hid cA
  clear hp hr hB lo hn l0 l1 l3 l4 l5 hT
  go_enter Try.func9, Try.ntmps9
  go_wp2_with fail
  refine htb.mono ?_
  rintro e w1 ⟨hC, ⟨f, ov', hf, hu, rfl, hT, hw⟩ | ⟨rfl, hT, hno⟩⟩
  · have y2 : w1.cell? ⟨w.heap.size, 2, none⟩ = some (.int .i64 0) := by rw [bcell hT.st]; rfl
    have q2 := bfroz hT.st 2
    obtain ⟨m1, m2⟩ := hT.setRoot (r := f)
    have F := Lib.hid (show NewTo w0 w pm bl p b bi S B (.returned (.tuple #[.pointer (some ⟨w.heap.size, 0, none⟩), .int .i64 0])) (w1.setCell ⟨w.heap.size, 2, none⟩ (.int .i64 (f : Int))) from by
      refine ⟨?_, .inl ⟨w.heap.size, f, ov', hf, hu, Nat.le_refl _, rfl, m1, fun g hg => ?_⟩⟩
      · refine ((H.out.mono (fun _ _ x => x.elim)).trans hC (fun i hi x => ?_)).trans m2 (fun i hi x => ?_)
        · rcases x with x | x | x | x | x
          · exact .inl x
          · exact .inr (.inl x)
          · exact .inr (.inr x)
          · omega
          · simp [Value.ownBlock] at x
        · have : i = w.heap.size := x
          omega
      · rcases hw g hg with x | x
        · simp [Value.ownBlock] at x
        · simp at x; omega)
    clear htb hC hT hw m1 m2
    go_wp2_with fail
    go_ret2
    exact F.out
  · have F := Lib.hid (show NewTo w0 w pm bl p b bi S B (.returned (.tuple #[.pointer none, .int .i64 4])) w1 from by
      refine ⟨(H.out.mono (fun _ _ x => x.elim)).trans hC (fun i hi x => ?_), .inr ⟨rfl, hT.pl, hT.rm, hno⟩⟩
      rcases x with x | x | x | x | x
      · exact .inl x
      · exact .inr (.inl x)
      · exact .inr (.inr x)
      · omega
      · simp [Value.ownBlock] at x)
    clear htb hC hT hno
    go_wp2_with fail
    go_ret2
    exact F.out
end Go.Proofs.Ytimdojkhdneecaa.Tree
