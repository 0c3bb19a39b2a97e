/- Numbers as bytes: Get (over XWordPut). -/
import Derived.Test.YtimdojkhdneecaaWordPut
namespace Go.Proofs.Ytimdojkhdneecaa.Word
open Go.RowKit Go.Proofs.Ytimdojkhdneecaa.Hp Go.Proofs.Ytimdojkhdneecaa.WordP
set_option linter.unusedVariables false
set_option linter.unusedSimpArgs false
theorem get_no (A : Option Addr) (L c : Nat) (at_ n : Int) (w : World) (hL : L ≤ 140737488351232) (h : thereB L at_ n = false) :
    Calls Try.prog 51 #[.slice A L c, .int .i64 at_, .int .i64 n] w fun e w' => e = .returned (.tuple #[.int .u64 0, .bool false]) ∧ w = w' := by
  go_enter Try.func51, Try.ntmps51
  go_wp2_with fail
  refine (there_any A L c at_ n _ hL).mono ?_
  rintro e w1 ⟨rfl, rfl⟩
  rw [h]
  go_wp2_with fail
  go_ret2
  exact ⟨rfl, rfl⟩
def GetRel (l : List Int) (a n : Nat) (v i : Value) : Prop := ∃ k : Nat, k ≤ n ∧ i = .int .i64 k ∧ v = .int .u64 (leN ((l.drop a).take k))
def GetPost (x : Int) (w : World) (e : Ending) (w' : World) : Prop := e = .returned (.tuple #[.int .u64 x, .bool true]) ∧ w = w'
set_option maxHeartbeats 2000000 in
theorem get_yes (A : Option Addr) (c : Nat) (l : List Int) (a n : Nat) (w : World) (hl : Rd w .u8 A l) (hb : Bytes l) (hn : n ≤ 8) (han : a + n ≤ l.length) :
    Calls Try.prog 51 #[.slice A l.length c, .int .i64 a, .int .i64 n] w (GetPost (leN ((l.drop a).take n)) w) := by
  have b1 := hl.1
  have ht : thereB l.length a n = true := decide_eq_true ⟨by omega, by omega, by omega, by omega, by omega⟩
  go_enter Try.func51, Try.ntmps51
  go_wp2_with fail
  refine (there_any A l.length c a n _ b1).mono ?_
  rintro e w1 ⟨rfl, rfl⟩
  rw [ht]
  clear ht
  go_wp2_with fail
  go_loop [8, 16] (fun v i => GetRel l a n v i) (fun v i => n - (intOf i).toNat)
  case atStart => exact ⟨0, by omega, rfl, by simp [leN]⟩
  case round =>
    obtain ⟨k, hk, rfl, rfl⟩ := hrel
    by_cases hlt : k < n
    · obtain ⟨ad, rfl, hc⟩ := hl.at_ (a + k) (by omega)
      have hx := hb (l[a + k]'(by omega)) (List.getElem_mem _)
      have e1 : l.getD (a + k) 0 = l[a + k]'(by omega) := by simp [show a + k < l.length from by omega]
      have st := get_step l hb a k (by omega) (by omega)
      generalize leN ((l.drop a).take k) = v at *
      rw [← e1] at hx
      generalize l.getD (a + k) 0 = x at *
      have hx0 := hx.1
      have hx1 := hx.2
      have ST := Lib.hid st
      clear hx e1 st
      go_wp2_with fail
      exact ⟨⟨k + 1, by omega, rfl, by rw [ST.out]⟩, by simp [intOf]; omega⟩
    · obtain rfl : k = n := by omega
      go_wp2_with fail
      go_ret2
      exact ⟨rfl, rfl⟩
end Go.Proofs.Ytimdojkhdneecaa.Word
