/- The statements on memory of frames (first part): what the laws' helpers do; RamNone, RamOwn. -/
import Derived.Test.YtilameppdnmgdaaRamC
import Derived.OpenShut
import Derived.Lib.SlBytesConst
namespace Go.Proofs.Ytilameppdnmgdaa.Ram
open Go.RowKit Go.Proofs.Ytilameppdnmgdaa.Hp
set_option linter.unusedVariables false
set_option linter.unusedSimpArgs false
def SameRel (l1 l2 : List Int) (w : World) (i : Value) (wr : World) : Prop := ∃ k : Nat, k ≤ l1.length ∧ i = .int .i64 k ∧ l1.take k = l2.take k ∧ Chg NoB w wr
def RetB (b : Bool) (w : World) (e : Ending) (w' : World) : Prop := e = .returned (.bool b) ∧ Chg NoB w w'
theorem RetB.below {w : World} {e : Ending} {w' : World} (h : RetB true w e w') : e = .returned (.bool true) ∧ Below w.heap.size w w' := ⟨h.1, h.2.below (Nat.le_refl _) (fun i hi => absurd hi (fun x => x))⟩
set_option maxHeartbeats 4000000 in
theorem same_any (A1 A2 : Option Addr) (c1 c2 : Nat) (l1 l2 : List Int) (w : World) (h1 : Rd w .u8 A1 l1) (h2 : Rd w .u8 A2 l2) :
    Calls Try.prog 16 #[.slice A1 l1.length c1, .slice A2 l2.length c2] w (RetB (decide (l1 = l2)) w) := by
  have b1 := h1.1
  have b2 := h2.1
  by_cases hl : l1.length = l2.length
  · have ht : (((l1.length : Nat) : Int) != (l2.length : Int)) = false := by rw [bne_eq_false_iff_eq]; omega
    have HL := Lib.hid hl
    clear hl
    go_enter Try.func16, Try.ntmps16
    go_wp2_with fail
    go_loopw [5] (fun i wr => SameRel l1 l2 w i wr) (fun i wr => l1.length - (intOf i).toNat)
    case atStart => exact ⟨0, by omega, rfl, by simp, Chg.refl _ _⟩
    case round =>
      obtain ⟨k, hk, rfl, htk, hC⟩ := hrel
      by_cases hlt : k < l1.length
      · obtain ⟨a1, rfl, hc1⟩ := (h1.chg hC (fun _ _ _ x => x)).at_ k hlt
        obtain ⟨a2, rfl, hc2⟩ := (h2.chg hC (fun _ _ _ x => x)).at_ k (by have := HL.out; omega)
        have n1 := take_succ_getD l1 k hlt
        have n2 := take_succ_getD l2 k (by have := HL.out; omega)
        have go1 : l1.getD k 0 = l2.getD k 0 → ∀ wr', Chg NoB w wr' → SameRel l1 l2 w (.int .i64 ((k : Int) + 1)) wr' := fun e wr' hh => ⟨k + 1, by omega, rfl, by rw [n1, n2, htk, e], hh⟩
        have no1 : l1.getD k 0 ≠ l2.getD k 0 → ∀ wr', Chg NoB w wr' → RetB (decide (l1 = l2)) w (.returned (.bool false)) wr' := by
          intro e wr' hh
          have : ¬ l1 = l2 := fun x => e (by rw [x])
          rw [decide_eq_false this]
          exact ⟨rfl, hh⟩
        have i1 : (k : Int) < (l1.length : Int) := by omega
        have i2 : (k : Int) < (l2.length : Int) := by have := HL.out; omega
        have G := Lib.hid go1
        have N := Lib.hid no1
        clear go1 no1 n1 n2 htk h1 h2
        generalize l1.getD k 0 = x at *
        generalize l2.getD k 0 = y at *
        by_cases e : x = y
        · have g := G.out e
          have hxy : (x != y) = false := by rw [bne_eq_false_iff_eq]; exact e
          have GG := Lib.hid g
          clear e g G N
          go_wp2_with fail
          go_quiet (fail)
          go_wp2_with fail
          go_roundw
          case rel => exact GG.out _ (hC.drewN _)
          case measure => simp [intOf]; omega
        · have g := N.out e
          have hxy : (x != y) = true := by rw [bne_iff_ne]; exact e
          have GG := Lib.hid g
          clear e g G N
          go_wp2_with fail
          go_quiet (fail)
          go_wp2_with fail
          go_ret
          exact GG.out _ (hC.drewN _)
      · obtain rfl : k = l1.length := by omega
        have e : l1 = l2 := by
          rw [List.take_length] at htk
          rw [htk, List.take_of_length_le (by have := HL.out; omega)]
        have F : RetB (decide (l1 = l2)) w (.returned (.bool true)) wr := by rw [decide_eq_true e]; exact ⟨rfl, hC⟩
        have FF := Lib.hid F
        clear e F htk h1 h2
        go_wp2_with fail
        go_ret
        exact FF.out
  · have ht : (((l1.length : Nat) : Int) != (l2.length : Int)) = true := by rw [bne_iff_ne]; omega
    have F : RetB (decide (l1 = l2)) w (.returned (.bool false)) w := by
      rw [decide_eq_false (fun e => hl (by rw [e]))]; exact ⟨rfl, Chg.refl _ _⟩
    have FF := Lib.hid F
    clear hl F
    go_enter Try.func16, Try.ntmps16
    go_wp2_with fail
    go_ret
    exact FF.out
theorem rd_new8 (w : World) (g : Nat) (hg : g = w.heap.size) (xs : List Int) (hx : xs.length ≤ 1000) (fr : Nat × Nat) (C : Array Value) (hC : C = (xs.map (Value.int .u8)).toArray) : Rd (w.alloc (.cells C 5 fr)) .u8 (some ⟨g, 0, none⟩) xs := by
  subst hg
  refine ⟨by omega, fun _ => ⟨_, rfl, fun j hj => ?_⟩⟩
  have hb : (w.alloc (.cells C 5 fr)).heap[w.heap.size]? = some (.cells C 5 fr) := bnew w _
  have e : (⟨w.heap.size, 0, none⟩ : Addr).add j = ⟨w.heap.size, j, none⟩ := by unfold Addr.add; split <;> simp_all
  rw [e]
  simp only [World.cell?, hb]
  rw [hC]; simp [hj]
set_option maxHeartbeats 4000000 in
theorem answers (w : World) : Calls Try.prog 12 #[] w (RetB true w) := by
  go_enter Try.func12, Try.ntmps12
  go_wp2_with fail
  refine (new_any 2 _).mono ?_
  rintro e w1 ⟨p, bl, rfl, hR, hp, hbl, hC⟩
  rw [show clampF 2 = 2 from rfl] at hR
  have kc := fun (w : World) (C : Array Value) (n c : Nat) => Lib.run_convert_bytes_const (P := Try.prog) w 22 5 C n c Try.underlying22 Try.underlying5
  go_wp2_with fail
  refine (write_ok p bl 2 _ _ 1 3 (some ⟨w1.heap.size, 0, none⟩) 1 [120] _ (hR.chg ((Chg.refl NoB w1).alloc _) (fun x => x) (fun x => x)) (by omega) (by simp) rfl (rd_new8 w1 _ rfl [120] (by simp) (1, 2) _ rfl)).mono ?_
  rintro e w2 ⟨rfl, hR2, hC2⟩
  have C2 : Chg NoB w w2 := (hC.alloc _).trans hC2 (fun i hi hh => by subst hh; omega)
  clear hC2 hC hR
  go_wp2_with fail
  refine (read_ok p bl 2 _ _ 1 3 1 _ hR2 (by omega) (by omega) rfl).mono ?_
  rintro e w3 ⟨v, rfl, hown, hC3⟩
  have hl : rdL (upd (fun _ _ => 0) 1 3 [120]) 1 3 1 = [120] := by decide
  rw [hl] at hown
  have hR3 := hR2.chg hC3 (fun x => x) (fun x => x)
  have C3 : Chg NoB w w3 := C2.trans hC3 (fun i hi hh => hh)
  obtain ⟨A, c, rfl, hl1, hlc, hrd, hoff⟩ := own_rd hown (by simp)
  obtain ⟨g, hA⟩ : ∃ g, A = some ⟨g, 0, none⟩ := by
    rcases hown.2 with ⟨_, h0⟩ | ⟨g, cap, cur, e, _⟩
    · simp at h0
    · exact ⟨g, by injection e⟩
  subst hA
  have hcell : w3.cell? ⟨g, 0, none⟩ = some (.int .u8 120) := by
    obtain ⟨ad, e1, hc⟩ := hrd.at_ 0 (by simp)
    obtain rfl := Option.some.inj e1
    exact hc
  clear hC3 C2 hR2 hown hrd hoff
  have hcells : ∀ i, i < 1 → w3.cell? ⟨g, 0 + i, none⟩ = some (.int .u8 ([120].getD i 0)) := by
    intro i hi
    obtain rfl : i = 0 := by omega
    exact hcell
  have hconv := run_convert_bytes_arg (P := Try.prog) w3 22 5 Try.underlying22 Try.underlying5 g 0 1 c [120] rfl hcells 9 Try.underlying9
  clear hcells
  have hstr : strOfNums [120] = ⟨#[120]⟩ := rfl
  rw [hstr] at hconv
  go_wp2_with fail
  refine (poison_yes p bl 2 _ _ 0 _ hR3 (by omega) rfl).mono ?_
  rintro e w4 ⟨rfl, hR4, hC4⟩
  have C4 : Chg NoB w w4 := C3.trans hC4 (fun i hi hh => by subst hh; omega)
  clear hC4 C3 hR3 hconv hcell
  go_wp2_with fail
  refine (bad_any p bl 2 _ _ 0 _ hR4).mono ?_
  rintro e w5 ⟨rfl, rfl⟩
  rw [show isBad 2 (setD (fun _ => false) 0) 0 = true from by decide]
  go_wp2_with fail
  go_ret
  exact ⟨rfl, C4⟩
set_option maxHeartbeats 4000000 in
theorem ramNone (f a : Int) (A : Option Addr) (L c : Nat) (w : World) : Calls Try.prog 10 #[.int .i64 f, .int .i64 a, .slice A L c] w (RetB true w) := by
  go_enter Try.func10, Try.ntmps10
  go_wp2_with fail
  refine (read_nil f a L _).mono ?_
  rintro e w1 ⟨rfl, rfl⟩
  go_wp2_with fail
  refine (answers _).mono ?_
  rintro e w2 ⟨rfl, hC⟩
  go_wp2_with fail
  refine (write_nil f a A L c _).mono ?_
  rintro e w1 ⟨rfl, rfl⟩
  go_wp2_with fail
  refine (copy_none f a _).mono ?_
  rintro e w1 ⟨rfl, rfl⟩
  go_wp2_with fail
  refine (zero_nil f _).mono ?_
  rintro e w1 ⟨rfl, rfl⟩
  go_wp2_with fail
  refine (poison_nil f _).mono ?_
  rintro e w1 ⟨rfl, rfl⟩
  go_wp2_with fail
  refine (bad_nil f _).mono ?_
  rintro e w1 ⟨rfl, rfl⟩
  go_wp2_with fail
  refine (frames_nil _).mono ?_
  rintro e w1 ⟨rfl, rfl⟩
  go_wp2_with fail
  go_ret
  exact ⟨rfl, hC⟩
end Go.Proofs.Ytilameppdnmgdaa.Ram
