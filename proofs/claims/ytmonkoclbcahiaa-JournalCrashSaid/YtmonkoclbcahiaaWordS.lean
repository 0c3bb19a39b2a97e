/- Sums (XWordB without the reference). -/
import Derived.Test.YtmonkoclbcahiaaWordPut
import Derived.OpenShut
namespace Go.Proofs.Ytmonkoclbcahiaa.Word
open Go.RowKit Go.Proofs.Ytmonkoclbcahiaa.Hp Go.Proofs.Ytmonkoclbcahiaa.WordP
set_option linter.unusedVariables false
set_option linter.unusedSimpArgs false
def sumStep (h c : Int) : Int := IntKind.u64.wrap (Go.bits .xor .u64 h c * 1099511628211)
def fold (h : Int) (l : List Int) : Int := l.foldl sumStep h
theorem fold_append (h : Int) (l k : List Int) : fold h (l ++ k) = fold (fold h l) k := List.foldl_append
theorem fold_one (h : Int) (l : List Int) (x : Int) : fold h (l ++ [x]) = sumStep (fold h l) x := by rw [fold_append]; rfl
def sum32 (h : Int) : Int := Go.bits .xor .u32 (IntKind.u32.wrap (h / 4294967296)) (IntKind.u32.wrap h)
/-- A slice of slices of bytes. -/
def Parts (w : World) (A : Option Addr) (ps : List (List Int)) : Prop :=
  ∀ j, j < ps.length → ∃ ad B c, A = some ad ∧ w.cell? (ad.add j) = some (.slice B (ps.getD j []).length c) ∧ Rd w .u8 B (ps.getD j []) ∧ Bytes (ps.getD j [])
theorem take_succ_getDL (xs : List (List Int)) (j : Nat) (h : j < xs.length) : xs.take (j + 1) = xs.take j ++ [xs.getD j []] := by
  rw [List.take_add_one]
  simp [h]
def In64 (h : Int) : Prop := 0 ≤ h ∧ h < 18446744073709551616
theorem wrap_in64 (x : Int) : In64 (IntKind.u64.wrap x) := by
  rw [IntKind.wrap_u64]; constructor <;> omega
theorem fold_in64 (l : List Int) (h : Int) (hh : In64 h) : In64 (fold h l) := by
  induction l generalizing h with
  | nil => exact hh
  | cons x l ih => exact ih _ (wrap_in64 _)
def SumRel (ps : List (List Int)) (h i : Value) : Prop := ∃ k : Nat, k ≤ ps.length ∧ i = .int .i64 k ∧ h = .int .u64 (fold 14695981039346656037 (ps.take k).flatten)
def SumRel2 (h0 : Int) (l : List Int) (h i : Value) : Prop := ∃ k : Nat, k ≤ l.length ∧ i = .int .i64 k ∧ h = .int .u64 (fold h0 (l.take k))
def SumPost (x : Int) (w : World) (e : Ending) (w' : World) : Prop := e = .returned (.int .u32 x) ∧ w = w'
set_option maxHeartbeats 2000000 in
theorem sum_any (A : Option Addr) (c : Nat) (ps : List (List Int)) (w : World) (hp : Parts w A ps) (hn : ps.length ≤ 1000) :
    Calls Try.prog 50 #[.slice A ps.length c] w (SumPost (sum32 (fold 14695981039346656037 ps.flatten)) w) := by
  go_enter Try.func50, Try.ntmps50
  go_wp2_with fail
  go_loop [3, 10] (fun h i => SumRel ps h i) (fun h i => ps.length - (intOf i).toNat)
  case atStart => exact ⟨0, by omega, rfl, rfl⟩
  case round =>
    obtain ⟨k, hk, rfl, rfl⟩ := hrel
    by_cases hlt : k < ps.length
    · obtain ⟨ad, B, c1, rfl, hc, hr, hb⟩ := hp k hlt
      have st : fold 14695981039346656037 (ps.take (k + 1)).flatten = fold (fold 14695981039346656037 (ps.take k).flatten) (ps.getD k []) := by
        rw [take_succ_getDL ps k hlt, List.flatten_append, fold_append]; simp
      have h64 : In64 (fold 14695981039346656037 (ps.take k).flatten) := fold_in64 _ _ ⟨by omega, by omega⟩
      generalize fold 14695981039346656037 (ps.take k).flatten = h0 at *
      generalize ps.getD k [] = l at *
      have ST := Lib.hid st
      have bl := hr.1
      clear st
      go_wp2_with fail
      go_loop [3, 16] (fun h i => SumRel2 h0 l h i) (fun h i => l.length - (intOf i).toNat)
      case atStart => exact ⟨0, by omega, rfl, rfl⟩
      case round =>
        obtain ⟨j, hj, rfl, rfl⟩ := hrel
        by_cases hlj : j < l.length
        · obtain ⟨ad2, rfl, hc2⟩ := hr.at_ j hlj
          have hx := hb (l[j]'hlj) (List.getElem_mem _)
          have e1 : l.getD j 0 = l[j]'hlj := by simp [hlj]
          have st2 : fold h0 (l.take (j + 1)) = sumStep (fold h0 (l.take j)) (l.getD j 0) := by
            rw [take_succ_getD l j hlj, fold_one]
          have h642 : In64 (fold h0 (l.take j)) := fold_in64 _ _ h64
          rw [← e1] at hx
          generalize fold h0 (l.take j) = h1 at *
          generalize l.getD j 0 = x at *
          have hx0 := hx.1
          have hx1 := hx.2
          have ST2 := Lib.hid st2
          have H642 := Lib.hid h642
          have H64 := Lib.hid h64
          clear st2 h642 h64 hx e1
          go_wp2_with fail
          exact ⟨⟨j + 1, by omega, rfl, by rw [ST2.out]; rfl⟩, by simp [intOf]; omega⟩
        · obtain rfl : j = l.length := by omega
          rw [List.take_length] at *
          go_wp2_with fail
          exact ⟨⟨k + 1, by omega, rfl, by rw [ST.out]⟩, by simp [intOf]; omega⟩
    · obtain rfl : k = ps.length := by omega
      rw [List.take_length] at *
      go_wp2_with fail
      go_ret
      exact ⟨rfl, rfl⟩
end Go.Proofs.Ytmonkoclbcahiaa.Word
