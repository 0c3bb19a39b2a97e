/- Frames and what they are used for: is a number in a slice; Online. -/
import Derived.Test.YtimdojkhdneecaaPoolH
namespace Go.Proofs.Ytimdojkhdneecaa.Pool
open Go.RowKit Go.Proofs.Ytimdojkhdneecaa.Hp Go.Proofs.Ytimdojkhdneecaa.Runs
set_option linter.unusedVariables false
set_option linter.unusedSimpArgs false
/-- the first place of a number, or -1 -/
def IdxPost (xs : List Int) (v : Int) (w : World) (e : Ending) (w' : World) : Prop := ∃ n : Int, e = .returned (.int .i64 n) ∧ (0 ≤ n ↔ v ∈ xs) ∧ w = w'
def IdxRel (xs : List Int) (v : Int) (i : Value) : Prop := ∃ k : Nat, k ≤ xs.length ∧ i = .int .i64 k ∧ v ∉ xs.take k
theorem index_any (A : Option Addr) (c : Nat) (xs : List Int) (v : Int) (w : World) (h : Rd w .i64 A xs) :
    Calls Try.prog 59 #[.slice A xs.length c, .int .i64 v] w (IdxPost xs v w) := by
  have hlen := h.1
  go_enter Try.func59, Try.ntmps59
  go_wp2
  go_loop [8] (fun i => IdxRel xs v i) (fun i => xs.length - (intOf i).toNat)
  case atStart => exact ⟨0, by omega, rfl, by simp⟩
  case round =>
    obtain ⟨k, hk, rfl, hn⟩ := hrel
    by_cases hlt : k < xs.length
    · obtain ⟨ad, rfl, hc⟩ := h.at_ k hlt
      have hmem : xs.getD k 0 ∈ xs := by
        rw [List.getD_eq_getElem?_getD, List.getElem?_eq_getElem hlt]; simp
      have hnx : xs.take (k + 1) = xs.take k ++ [xs.getD k 0] := take_succ_getD xs k hlt
      by_cases e : v = xs.getD k 0
      · have post : IdxPost xs v w (.returned (.int .i64 k)) w := ⟨k, rfl, ⟨fun _ => by rw [e]; exact hmem, fun _ => by omega⟩, rfl⟩
        have P := Lib.hid post
        have hb : (v == xs.getD k 0) = true := beq_iff_eq.mpr e
        clear hnx hmem post e h hn
        generalize xs.getD k 0 = x at *
        go_wp2_with fail
        go_ret
        exact P.out
      · have nx : IdxRel xs v (.int .i64 ((k : Int) + 1)) := ⟨k + 1, by omega, rfl, by rw [hnx, List.mem_append]; exact fun x => x.elim hn (fun y => e (by simpa using y))⟩
        have NX := Lib.hid nx
        have hb : (v == xs.getD k 0) = false := beq_eq_false_iff_ne.mpr e
        clear hnx hmem e h hn nx
        generalize xs.getD k 0 = x at *
        go_wp2_with fail
        go_round
        case rel => exact NX.out
        case measure => simp [intOf]; omega
    · obtain rfl : k = xs.length := by omega
      rw [List.take_length] at hn
      have post : IdxPost xs v w (.returned (.int .i64 (-1))) w := ⟨-1, rfl, ⟨fun h => by omega, fun h => absurd h hn⟩, rfl⟩
      clear hn h
      go_wp2_with fail
      go_ret
      exact post
theorem contains_any (A : Option Addr) (c : Nat) (xs : List Int) (v : Int) (w : World) (h : Rd w .i64 A xs) :
    Calls Try.prog 38 #[.slice A xs.length c, .int .i64 v] w fun e w' => e = .returned (.bool (decide (v ∈ xs))) ∧ w = w' := by
  have hi := index_any A c xs v w h
  clear h
  by_cases m : v ∈ xs
  · rw [decide_eq_true m]
    go_enter Try.func38, Try.ntmps38
    go_wp2_with fail
    refine hi.mono ?_
    rintro e w1 ⟨n, rfl, hn, rfl⟩
    have hd : decide (0 ≤ n) = true := decide_eq_true (hn.mpr m)
    clear hn hi
    go_wp2_with fail
    go_ret
    exact ⟨rfl, rfl⟩
  · rw [decide_eq_false m]
    go_enter Try.func38, Try.ntmps38
    go_wp2_with fail
    refine hi.mono ?_
    rintro e w1 ⟨n, rfl, hn, rfl⟩
    have hd : decide (0 ≤ n) = false := decide_eq_false (fun h => m (hn.mp h))
    clear hn hi
    go_wp2_with fail
    go_ret
    exact ⟨rfl, rfl⟩
end Go.Proofs.Ytimdojkhdneecaa.Pool
