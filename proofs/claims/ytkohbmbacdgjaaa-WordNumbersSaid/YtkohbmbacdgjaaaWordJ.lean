/- Numbers as bytes: the statement on numbers, joined. -/
import Derived.Test.YtkohbmbacdgjaaaWordI
import Derived.Deep.RegionLaw
namespace Go.Proofs.Ytkohbmbacdgjaaa.Word
open Go.RowKit Go.Proofs.Ytkohbmbacdgjaaa.Hp Go.Proofs.Ytkohbmbacdgjaaa.WordP
set_option linter.unusedVariables false
set_option linter.unusedSimpArgs false
theorem rd_none (w : World) (A : Option Addr) : Rd w .u8 A [] := ⟨Nat.zero_le _, fun h => absurd h (Nat.lt_irrefl 0)⟩
theorem wordNumbers_big (A : Option Addr) (L c : Nat) (at_ n v : Int) (w : World) (hL : L ≤ 140737488351232) (big : 1000 < L) :
    Calls Try.prog 7 #[.slice A L c, .int .i64 at_, .int .i64 n, .int .u64 v] w (RetB true w) := by
  have d1 : decide ((1000 : Int) < (L : Int)) = true := decide_eq_true (by omega)
  clear big
  go_enter Try.func7, Try.ntmps7
  go_wp2_with fail
  refine (answers _).mono ?_
  rintro e w1 ⟨rfl, hC⟩
  go_wp2_with fail
  go_ret
  exact ⟨rfl, hC⟩
set_option maxHeartbeats 8000000 in
theorem wordNumbers_nil (A : Option Addr) (c : Nat) (v : Int) (w : World) (hnil : A = none → c = 0) (vv0 : 0 ≤ v) (vv1 : v < 18446744073709551616) :
    Calls Try.prog 7 #[.slice A 0 c, .int .i64 0, .int .i64 0, .int .u64 v] w (RetB true w) := by
  have hown0 := made0 w
  have hC0 : Chg NoB w (w.alloc (.cells #[] 5)) := (Chg.refl _ _).alloc _
  have hbn : Bytes [] := fun x hx => by cases hx
  have src : ∀ w' : World, 0 < ([] : List Value).length → ∃ ad, A = some ad ∧ ∀ j u, ([] : List Value)[j]? = some u → w'.cell? (ad.add j) = some u := fun w' h => absurd h (Nat.lt_irrefl 0)
  have one : ∀ u, u ∈ ([] : List Value) → u.oneCell' = true := fun u hu => by cases hu
  have gy := get_yes A c [] 0 0 w (rd_none w A) hbn (by omega) (by simp)
  have ry := rget_yes A c [] 0 0 w (rd_none w A) hbn (by omega) (by simp)
  go_enter Try.func7, Try.ntmps7
  go_wp2_with fail
  refine Calls.mono gy ?_
  rintro e w1 ⟨rfl, rfl⟩
  rw [show leN ((([] : List Int).drop 0).take 0) = 0 from rfl]
  clear gy
  go_wp2_with fail
  refine Calls.mono ry ?_
  rintro e w1 ⟨rfl, rfl⟩
  rw [show leN ((([] : List Int).drop 0).take 0) = 0 from rfl]
  clear ry
  go_wp2_with (with_reducible refine append_src (w0 := w) (S := NoB) rfl (.tmp 34) (.tmp 35) 37 5 rfl (.int .u8 0) 1 Try.underlying37 info8 rfl (.slice (some ⟨w.heap.size, 0, none⟩) 0 0) 0 [] rfl hC0 hown0 [] A c rfl hnil (src _) one (by decide) (by decide) ?_; intro v1 w1 hown1 hC1)
  obtain ⟨V, c1, rfl, hput⟩ := put_own _ _ _ [] 0 0 v hown1 (by simp) vv0 vv1 (by omega) (by simp)
  clear hown1 hown0 hC0
  refine Calls.mono hput ?_
  rintro e w2 ⟨rfl, -, hC⟩
  have C2 : Chg NoB w w2 := hC1.trans hC (fun i hi hh => by omega)
  clear hput hC hC1
  go_wp2_with fail
  refine (answers _).mono ?_
  rintro e w3 ⟨rfl, hC⟩
  have C3 : Chg NoB w w3 := C2.trans hC (fun i hi hh => hh)
  clear hC C2
  have hown0 := made0 w3
  have hC0 : Chg NoB w3 (w3.alloc (.cells #[] 5)) := (Chg.refl _ _).alloc _
  go_wp2_with (with_reducible refine append_src (w0 := w3) (S := NoB) rfl (.tmp 59) (.tmp 60) 37 5 rfl (.int .u8 0) 1 Try.underlying37 info8 rfl (.slice (some ⟨w3.heap.size, 0, none⟩) 0 0) 0 [] rfl hC0 hown0 [] A c rfl hnil (src _) one (by decide) (by decide) ?_; intro v4 w4 hown4 hC4)
  obtain ⟨V4, c4, rfl, -, -, -, -⟩ := own_rd (k := .u8) (xs := []) hown4 (by simp)
  have C4 : Chg NoB w w4 := C3.trans hC4 (fun i hi hh => hh)
  clear C3 hC4
  have hcp : ∀ (dp sp : Option Addr) (dCap sCap : Nat) (w' : World), (Builtin.copy_ #[37, 37] 3 #[.slice dp 0 dCap, .slice sp 0 sCap]).run Try.prog w' = .ok (.int .i64 0) w' := fun dp sp dCap sCap w' => run_copy_none (P := Try.prog) w' 37 37 3 5 dp sp 0 dCap 0 sCap Try.underlying37 (by kernel_rfl) rfl
  by_cases h4 : c4 = 0
  · subst h4
    clear hown4 hown0 hC0
    have rn := rnum_any v 0 w4.drew vv0 vv1 (by omega)
    go_region_law (go_simp; refine Calls.mono rn ?_; rintro e w5 ⟨A5, c5, rfl, hr5, hC5⟩; dsimp only)
    have C5 : Chg NoB w w5 := C4.drew.trans hC5 (fun i hi hh => hh)
    clear rn hC5 C4
    go_wp2_with fail
    have SM := same_any V V4 c1 0 [] [] w5 (rd_none _ _) (rd_none _ _)
    rw [decide_eq_true rfl] at SM
    refine Calls.mono SM ?_
    rintro e w7 ⟨rfl, hC7⟩
    have C7 : Chg NoB w w7 := C5.trans hC7 (fun i hi hh => hh)
    clear SM hC7 C5
    go_wp2_with fail
    go_ret
    exact ⟨rfl, C7⟩
  · clear hown4 hown0 hC0
    have rn := rnum_any v 0 w4.drew vv0 vv1 (by omega)
    go_region_law (go_simp; refine Calls.mono rn ?_; rintro e w5 ⟨A5, c5, rfl, hr5, hC5⟩; dsimp only)
    have C5 : Chg NoB w w5 := C4.drew.trans hC5 (fun i hi hh => hh)
    clear rn hC5 C4
    go_wp2_with fail
    have SM := same_any V V4 c1 c4 [] [] w5 (rd_none _ _) (rd_none _ _)
    rw [decide_eq_true rfl] at SM
    refine Calls.mono SM ?_
    rintro e w7 ⟨rfl, hC7⟩
    have C7 : Chg NoB w w7 := C5.trans hC7 (fun i hi hh => hh)
    clear SM hC7 C5
    go_wp2_with fail
    go_ret
    exact ⟨rfl, C7⟩
theorem wordNumbers_row (a0 : Option Addr) (len0 cap0 : Nat) (z0 : List Int) (a1 a2 a3 : Int) (W : World) (w0 : IsRow .u8 W a0 len0 cap0 z0) (y0 : len0 * 1 ≤ 140737488351232) (w1 : (Lit.int .i64 a1).wf = true) (w2 : (Lit.int .i64 a2).wf = true) (w3 : (Lit.int .u64 a3).wf = true) :
    Calls Try.prog 7 #[.slice a0 len0 cap0, .int .i64 a1, .int .i64 a2, .int .u64 a3] W fun e w' => e = .returned (.bool true) ∧ Below W.heap.size W w' := by
  obtain ⟨h1, k1, -, f1⟩ := rd_of_row w0 (by omega)
  have b3 := bounds_u64 w3
  have hnil := row_nil w0
  suffices hs : Calls Try.prog 7 #[.slice a0 len0 cap0, .int .i64 a1, .int .i64 a2, .int .u64 a3] W (RetB true W) from hs.mono fun _ _ h => h.below
  by_cases big : 1000 < len0
  · exact wordNumbers_big a0 len0 cap0 a1 a2 a3 W (by omega) big
  · cases ht : thereB len0 a1 a2 with
    | false =>
      have := wordNumbers_no a0 cap0 (z0.take len0) a1 a2 a3 W h1 hnil (wf_bytes f1) (by omega) (by rw [k1]; exact ht)
      rw [k1] at this
      exact this
    | true =>
      have hh := of_decide_eq_true ht
      obtain ⟨a, rfl⟩ := Int.eq_ofNat_of_zero_le hh.2.2.1
      obtain ⟨n, rfl⟩ := Int.eq_ofNat_of_zero_le hh.1
      by_cases l0 : len0 = 0
      · subst l0
        obtain rfl : a = 0 := by omega
        obtain rfl : n = 0 := by omega
        exact wordNumbers_nil a0 cap0 a3 W hnil b3.1 (by omega)
      · have := wordNumbers_yes a0 cap0 (z0.take len0) a n a3 W h1 hnil (wf_bytes f1) (by omega) (by omega) (by omega) (by omega) b3.1 (by omega)
        rw [k1] at this
        exact this
end Go.Proofs.Ytkohbmbacdgjaaa.Word
