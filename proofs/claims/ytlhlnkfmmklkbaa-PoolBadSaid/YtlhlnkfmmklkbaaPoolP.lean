/- Frames and what they are used for: what a pool that does nothing does not answer; no pool. -/
import Derived.Test.YtlhlnkfmmklkbaaPoolO
namespace Go.Proofs.Ytlhlnkfmmklkbaa.Pool
open Go.RowKit Go.Proofs.Ytlhlnkfmmklkbaa.Hp Go.Proofs.Ytlhlnkfmmklkbaa.Runs
set_option linter.unusedVariables false
set_option linter.unusedSimpArgs false
def sA : PS := PS.new.online 1 2 [32]
theorem sA_e : PS.new.onE 1 2 = 0 := by decide
theorem sA_U (f : Nat) : sA.U f = if 32 ≤ f ∧ f < 64 then (if f = 32 then 6 else 1) else 0 := by
  unfold sA PS.online
  rw [sA_e, if_pos rfl]
  show onU (fun _ => 0) (Int.toNat 1 * 32) [32] 32 f = _
  unfold onU
  by_cases c : 32 ≤ f ∧ f < 64
  · rw [if_pos c, if_pos (by simpa using c)]
    by_cases d : f = 32
    · subst d; simp
    · have : ¬ ((f : Int) = 32) := by omega
      simp [d, this]
  · rw [if_neg c, if_neg (by simpa using c)]
theorem sA_Z (s : Nat) : sA.Z s = if s = 1 then 2 else 0 := by
  unfold sA PS.online
  rw [sA_e, if_pos rfl]
  rfl
theorem sA_I (s : Nat) : sA.I s = false := by
  unfold sA PS.online
  rw [sA_e, if_pos rfl]
  show updB (fun _ => false) _ false s = false
  unfold updB; split <;> rfl
theorem pick_two (S : PS) (o : Int) (h : S.first 3 (2 ^ o.toNat) = none) : S.pick o true = S.first 2 (2 ^ o.toNat) := by
  unfold PS.pick
  rw [if_pos rfl, h]
theorem pick_no (S : PS) (o : Int) : S.pick o false = S.first 2 (2 ^ o.toNat) := by
  unfold PS.pick
  rw [if_neg (by decide)]
theorem pick_three (S : PS) (o : Int) (f : Nat) (h : S.first 3 (2 ^ o.toNat) = some f) : S.pick o true = some f := by
  unfold PS.pick
  rw [if_pos rfl, h]
theorem sA_33 (k : Nat) (hk : k < 1) : sA.U (33 + k) = 1 := by
  obtain rfl : k = 0 := by omega
  rw [sA_U]; rfl
theorem sA_pick : sA.pick 0 true = some 33 := by
  have h3 : sA.first 3 1 = none := first_none _ _ _ (fun g hG => by
    have := hG.2.2.1
    rw [sA_Z] at this
    split at this <;> omega)
  have h2 : sA.first 2 1 = some 33 := first_some _ _ _ _ (by omega) ⟨⟨by decide, by decide, by rw [sA_Z]; rfl, sA_I _, sA_33⟩, fun g hg hG => by
    have h1 := hG.2.2.2.2 0 (by omega)
    rw [sA_U] at h1
    by_cases c : 32 ≤ g + 0 ∧ g + 0 < 64
    · rw [if_pos c] at h1
      rw [if_pos (by omega)] at h1
      omega
    · rw [if_neg c] at h1; omega⟩
  rw [pick_two sA 0 h3]
  exact h2
theorem sA_E : sA.allocE 3 0 true = 0 := by unfold PS.allocE; rw [if_pos (by decide), sA_pick]
theorem sA_F : sA.allocF 3 0 true = 33 := by unfold PS.allocF; rw [if_pos (by decide), sA_pick]; rfl
def sB : PS := sA.alloc 3 0 true
theorem sB_33 : sB.use 33 = 3 := by
  unfold sB PS.alloc
  rw [sA_E, sA_F, if_pos rfl]
  show useD (allocU sA.U 33 1 3) 33 = 3
  rfl
theorem sB_32 : sB.use 32 = 6 := by
  unfold sB PS.alloc
  rw [sA_E, sA_F, if_pos rfl]
  show useD (allocU sA.U 33 1 3) 32 = 6
  rw [show useD (allocU sA.U 33 1 3) 32 = sA.U 32 from rfl, sA_U]
  decide
theorem sB_z : sB.zone 1 = 2 := by
  unfold sB PS.alloc
  rw [sA_E, sA_F, if_pos rfl]
  show zoneD sA.Z 1 = 2
  rw [show zoneD sA.Z 1 = sA.Z 1 from rfl, sA_Z]
  decide
def True1 (w0 : World) (e : Ending) (w' : World) : Prop := e = .returned (.bool true) ∧ Chg NoB w0 w'
theorem answers_any (w0 : World) : Calls Try.prog 26 #[] w0 (True1 w0) := by
  go_enter Try.func26, Try.ntmps26
  go_wp2_with fail
  refine (l_new w0).mono ?_
  rintro e w1 ⟨p, b, bi, rfl, h⟩
  have h1 := h.keep ((Chg.refl NoB w1).alloc (.cells #[.int .i64 32] 3))
  have rd := rd_one w1 w1.heap.size rfl 32
  have lp := h.lp
  have hon := l_online 1 2 (some ⟨w1.heap.size, 0, none⟩) 1 [32] h1 rd (fun _ ad ea => by
    have := (Option.some.inj ea).symm; subst this
    have h2 := blt h.at_.fr.xs
    obtain ⟨C, h3, _⟩ := h.at_.st
    have h3 := blt h3
    show ¬ (w1.heap.size = p ∨ w1.heap.size = bi)
    omega)
  rw [sA_e] at hon
  clear h h1 rd
  go_wp2_with fail
  refine hon.mono ?_
  rintro e w2 ⟨rfl, h2⟩
  clear hon
  have hal := l_alloc 3 0 true h2
  rw [show PS.new.online 1 2 [32] = sA from rfl, sA_E, sA_F] at hal
  clear h2
  go_wp2_with fail
  refine hal.mono ?_
  rintro e w3 ⟨rfl, h3⟩
  clear hal
  have u33 := l_use 33 h3
  have u32 := l_use 32 h3
  have z1 := l_zone 1 h3
  rw [show sA.alloc 3 0 true = sB from rfl, sB_33] at u33
  rw [show sA.alloc 3 0 true = sB from rfl, sB_32] at u32
  rw [show sA.alloc 3 0 true = sB from rfl, sB_z] at z1
  have fin : True1 w0 (.returned (.bool true)) w3 := ⟨rfl, h3.ch⟩
  clear h3
  go_wp2_with fail
  refine u33.mono ?_
  rintro e w4 ⟨rfl, rfl⟩
  clear u33
  go_wp2_with fail
  refine u32.mono ?_
  rintro e w4 ⟨rfl, rfl⟩
  clear u32
  go_wp2_with fail
  refine z1.mono ?_
  rintro e w4 ⟨rfl, rfl⟩
  clear z1
  go_wp2_with fail
  go_ret
  exact fin
theorem count_nil (s u : Int) (w : World) : Calls Try.prog 30 #[.pointer none, .int .i64 s, .int .i64 u] w fun e w' => e = .returned (.int .i64 0) ∧ w = w' := by
  by_cases g : 0 ≤ s ∧ s < 32
  · obtain ⟨a, rfl⟩ := Int.eq_ofNat_of_zero_le g.1
    exact count_nil_in a u (by have := g.2; omega) w
  · exact count_out none s u (by omega) w
theorem poolNone (n : Int) (w : World) : Calls Try.prog 12 #[.int .i64 n] w (True1 w) := by
  go_enter Try.func12, Try.ntmps12
  go_wp2_with fail
  refine (alloc_nil 3 0 true _).mono ?_
  rintro e w1 ⟨rfl, rfl⟩
  go_wp2_with fail
  refine (answers_any w).mono ?_
  rintro e w1 ⟨rfl, hC⟩
  have fin : True1 w (.returned (.bool true)) w1 := ⟨rfl, hC⟩
  clear hC
  go_wp2_with fail
  refine (online_nil n 2 none 0 0 _).mono ?_
  rintro e w2 ⟨rfl, rfl⟩
  go_wp2_with fail
  refine (offline_nil n _).mono ?_
  rintro e w2 ⟨rfl, rfl⟩
  go_wp2_with fail
  refine (zone_nil n _).mono ?_
  rintro e w2 ⟨rfl, rfl⟩
  go_wp2_with fail
  refine (use_nil n _).mono ?_
  rintro e w2 ⟨rfl, rfl⟩
  go_wp2_with fail
  refine (count_nil n 0 _).mono ?_
  rintro e w2 ⟨rfl, rfl⟩
  go_wp2_with fail
  refine (free_nil n _).mono ?_
  rintro e w2 ⟨rfl, rfl⟩
  go_wp2_with fail
  refine (spoil_nil n _).mono ?_
  rintro e w2 ⟨rfl, rfl⟩
  go_wp2_with fail
  refine (isolate_nil n true _).mono ?_
  rintro e w2 ⟨rfl, rfl⟩
  go_wp2_with fail
  go_ret
  exact fin
end Go.Proofs.Ytlhlnkfmmklkbaa.Pool
