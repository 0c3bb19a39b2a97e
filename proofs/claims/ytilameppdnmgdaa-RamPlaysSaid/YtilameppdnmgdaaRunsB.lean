/- Sets of numbers: what their methods do, in memory (second part). -/
import Derived.Test.YtilameppdnmgdaaRuns
namespace Go.Proofs.Ytilameppdnmgdaa.Runs
open Go.RowKit Go.Proofs.Ytilameppdnmgdaa.Hp
set_option linter.unusedVariables false
set_option linter.unusedSimpArgs false
def idx (L : List Int) (k : Nat) : List Int := ((List.range k).filter (fun i => L.getD i 0 == 1)).map (fun i : Nat => (i : Int))
theorem idx_succ (L : List Int) (k : Nat) : idx L (k + 1) = idx L k ++ (if L.getD k 0 == 1 then [(k : Int)] else []) := by
  unfold idx
  rw [List.range_succ, List.filter_append, List.map_append]
  congr 1
  by_cases h : (L.getD k 0 == 1) = true
  · rw [if_pos h, List.filter_cons, if_pos h]; rfl
  · rw [if_neg h, List.filter_cons, if_neg h]; rfl
theorem idx_len (L : List Int) (k : Nat) : (idx L k).length ≤ k := by
  unfold idx; rw [List.length_map]
  exact Nat.le_trans (List.length_filter_le _ _) (by simp)
def AllRel (L : List Int) (w : World) (v i : Value) (wr : World) : Prop :=
  ∃ k : Nat, k ≤ L.length ∧ i = .int .i64 k ∧ wr.ownsRow w.heap.size 3 1 v (idx L k).length ((idx L k).map (Value.int .i64)) ∧ Chg NoB w wr
def AllPost (L : List Int) (w : World) (e : Ending) (w' : World) : Prop :=
  ∃ v, e = .returned v ∧ w'.ownsRow w.heap.size 3 1 v (idx L L.length).length ((idx L L.length).map (Value.int .i64)) ∧ Chg NoB w w'
set_option maxHeartbeats 2000000 in
theorem all_yes (b bi : Nat) (L : List Int) (w : World) (h : RSet w b bi L) : Calls Try.prog 26 #[.pointer (some ⟨b, 0, none⟩)] w (AllPost L w) := by
  have info : (Try.prog.info? 3).map (fun i => (i.zero, i.size, i.bytes)) = some (some (.int .i64 0), 1, 8) := by kernel_rfl
  have hs := h.c0
  have hle := h.le
  go_enter Try.func26, Try.ntmps26
  go_wp2
  go_loopw [3, 13] (fun v i wr => AllRel L w v i wr) (fun v i wr => L.length - (intOf i).toNat)
  case atStart => exact ⟨0, by omega, rfl, ⟨by simp [idx], .inl ⟨rfl, by simp [idx]⟩⟩, Chg.refl _ _⟩
  case round =>
    obtain ⟨k, hk, rfl, hown, hC⟩ := hrel
    by_cases hlt : k < L.length
    · have hci := hC.cell (h.ci k hlt) (fun x => x)
      have hn := idx_succ L k
      have hlen := idx_len L k
      by_cases ho : (L.getD k 0 == 1) = true
      · rw [if_pos ho] at hn
        have HN := Lib.hid hn
        clear hn
        generalize L.getD k 0 = x at *
        go_wp2_with (first | (at_builtin; go_loud (refine append_one (w0 := w) (S := NoB) rfl (.tmp 20) (.tmp 22) 32 3 rfl (.int .i64 0) 8 Try.underlying32 info rfl u3 _ _ (by rfl) hC hown (.int .i64 k) _ (by rfl) rfl (by omega) (by omega) ?_); intro v' w1 hown' hC'))
        go_roundw
        case rel =>
          refine ⟨k + 1, by omega, rfl, ?_, hC'⟩
          rw [HN.out, List.length_append, List.map_append]
          exact hown'
        case measure => simp [intOf]; omega
      · have ho' : (L.getD k 0 == 1) = false := by simpa using ho
        rw [if_neg ho, List.append_nil] at hn
        have HN := Lib.hid hn
        clear hn ho
        generalize L.getD k 0 = x at *
        go_wp2
        go_roundw
        case rel => exact ⟨k + 1, by omega, rfl, by rw [HN.out]; exact hown, hC⟩
        case measure => simp [intOf]; omega
    · obtain rfl : k = L.length := by omega
      go_wp2
      go_ret
      exact ⟨_, rfl, hown, hC⟩
def CountPost (n : Nat) (w : World) (e : Ending) (w' : World) : Prop := e = .returned (.int .i64 (n : Nat)) ∧ Chg NoB w w'
theorem count_yes (b bi : Nat) (L : List Int) (w : World) (h : RSet w b bi L) : Calls Try.prog 27 #[.pointer (some ⟨b, 0, none⟩)] w (CountPost (idx L L.length).length w) := by
  go_enter Try.func27, Try.ntmps27
  go_wp2_with fail
  refine (all_yes b bi L _ h).mono ?_
  rintro e w1 ⟨v, rfl, hown, hC⟩
  obtain ⟨A, c, rfl, -, -, -, -⟩ := own_rd hown (by have := idx_len L L.length; have := h.le; omega)
  go_wp2_with fail
  go_ret
  exact ⟨rfl, hC⟩
theorem all_nil (w : World) : Calls Try.prog 26 #[.pointer none] w fun e w' => e = .returned (.slice none 0 0) ∧ w = w' := by
  go_enter Try.func26, Try.ntmps26
  go_wp2
  go_ret
  exact ⟨rfl, rfl⟩
theorem count_nil (w : World) : Calls Try.prog 27 #[.pointer none] w fun e w' => e = .returned (.int .i64 0) ∧ w = w' := by
  go_enter Try.func27, Try.ntmps27
  go_wp2_with fail
  refine (all_nil _).mono ?_
  rintro e w1 ⟨rfl, rfl⟩
  go_wp2_with fail
  go_ret
  exact ⟨rfl, rfl⟩
theorem has_nil (i : Int) (w : World) : Calls Try.prog 23 #[.pointer none, .int .i64 i] w fun e w' => e = .returned (.bool false) ∧ w = w' := by
  go_enter Try.func23, Try.ntmps23
  go_wp2
  go_ret
  exact ⟨rfl, rfl⟩
def hasB (L : List Int) (i : Int) : Bool := decide (0 ≤ i) && (decide (i < (L.length : Int)) && (L.getD i.toNat 0 == 1))
theorem has_any (b bi : Nat) (L : List Int) (i : Int) (w : World) (h : RSet w b bi L) :
    Calls Try.prog 23 #[.pointer (some ⟨b, 0, none⟩), .int .i64 i] w fun e w' => e = .returned (.bool (hasB L i)) ∧ w = w' := by
  have hs := h.c0
  have hle := h.le
  by_cases c1 : 0 ≤ i
  · by_cases c2 : i < (L.length : Int)
    · have hci := h.ci i.toNat (by omega)
      have hb : hasB L i = (L.getD i.toNat 0 == 1) := by unfold hasB; rw [decide_eq_true c1, decide_eq_true c2]; rfl
      rw [hb]
      clear hb
      generalize L.getD i.toNat 0 = x at *
      go_enter Try.func23, Try.ntmps23
      go_wp2
      go_ret
      exact ⟨rfl, rfl⟩
    · have hb : hasB L i = false := by unfold hasB; rw [decide_eq_true c1, decide_eq_false c2]; rfl
      rw [hb]
      clear hb
      go_enter Try.func23, Try.ntmps23
      go_wp2
      go_ret
      exact ⟨rfl, rfl⟩
  · have hb : hasB L i = false := by unfold hasB; rw [decide_eq_false c1]; rfl
    rw [hb]
    clear hb
    go_enter Try.func23, Try.ntmps23
    go_wp2
    go_ret
    exact ⟨rfl, rfl⟩
theorem run_bad (p : Option Addr) (o from_ to_ : Int) (w : World) (h : p = none ∨ o < 0 ∨ 5 < o) :
    Calls Try.prog 20 #[.pointer p, .int .i64 o, .int .i64 from_, .int .i64 to_] w fun e w' => e = .returned (.tuple #[.int .i64 0, .bool false]) ∧ w = w' := by
  cases p with
  | none =>
    go_enter Try.func20, Try.ntmps20
    go_wp2
    go_ret2
    exact ⟨rfl, rfl⟩
  | some a =>
    by_cases c : o < 0
    · go_enter Try.func20, Try.ntmps20
      go_wp2
      go_ret2
      exact ⟨rfl, rfl⟩
    · have c2 : 5 < o := by
        rcases h with h | h | h
        · cases h
        · exact absurd h c
        · exact h
      go_enter Try.func20, Try.ntmps20
      go_wp2
      go_ret2
      exact ⟨rfl, rfl⟩
end Go.Proofs.Ytilameppdnmgdaa.Runs
