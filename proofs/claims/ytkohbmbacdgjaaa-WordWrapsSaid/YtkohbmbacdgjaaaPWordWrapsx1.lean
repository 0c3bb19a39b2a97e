-- PRINTED BY print.sh 35421559b90ae4d0a3588c463048766b98c2df88dd9212a6774a882060cdf62d: not written by this session
import Derived.Test.YtkohbmbacdgjaaaPWordWrapsx0
namespace Go.Proofs.Ytkohbmbacdgjaaa.PWordWraps
open Go.RowKit Go.Proofs.YtkohbmbacdgjaaaW.PrintWords Go.Proofs.YtkohbmbacdgjaaaW.PrintLast Go.Proofs.YtkohbmbacdgjaaaW.PrintMore
attribute [local go_sem] max2_int min2_int max_two min_two max_three min_three max_four min_four   -- for this text's walks alone
set_option linter.unusedVariables false
set_option linter.unusedSimpArgs false

/-! ### word_there: function 26 -/
def word_there.f (l0 : List Int) (a1 : Int) (a2 : Int) : Option (Bool) := if a2 ≥ 0 then (if a2 ≤ 8 then (if a1 ≥ 0 then (if a1 ≤ (l0.length : Int) then (some (decide (a2 ≤ (wrap64 ((l0.length : Int) - a1))))) else (some false)) else (some false)) else (some false)) else (some false)
set_option maxHeartbeats 8000000 in
set_option maxRecDepth 100000 in
theorem word_there.calls (A0 : Option Addr) (c0 : Nat) (l0 : List Int) (a1 : Int) (a2 : Int) (r : Bool) (w : World) (hr0 : Kd.C (Kd.int .u8) w A0 l0.length l0) (hc0 : l0.length ≤ c0) (h : word_there.f l0 a1 a2 = some r) :
    Calls Try.prog 26 #[.slice A0 l0.length c0, .int .i64 a1, .int .i64 a2] w fun e w' => e = .returned (.bool r) ∧ Drawn0 w w' := by
  have HR0 := Aside0.mk hr0
  have HC0 := Aside0.mk hc0
  clear hr0 hc0
  have H : (if a2 ≥ 0 then (if a2 ≤ 8 then (if a1 ≥ 0 then (if a1 ≤ (l0.length : Int) then (some (decide (a2 ≤ (wrap64 ((l0.length : Int) - a1))))) else (some false)) else (some false)) else (some false)) else (some false)) = some r := h
  clear h
  by_cases c4 : a2 ≥ 0
  · rw [if_pos c4] at H
    have c4b0 : decide (0 ≤ a2) = true := decide_eq_true c4
    clear c4
    by_cases c5 : a2 ≤ 8
    · rw [if_pos c5] at H
      have c5b0 : decide (a2 ≤ 8) = true := decide_eq_true c5
      clear c5
      by_cases c6 : a1 ≥ 0
      · rw [if_pos c6] at H
        have c6b0 : decide (0 ≤ a1) = true := decide_eq_true c6
        clear c6
        by_cases c7 : a1 ≤ (l0.length : Int)
        · rw [if_pos c7] at H
          have c7b0 : decide (a1 ≤ (l0.length : Int)) = true := decide_eq_true c7
          clear c7
          obtain rfl := Option.some.inj H
          go_enter Try.func26, Try.ntmps26
          go_wp2
          go_ret
          exact ⟨by first | rfl | (simp; done) | (simp [*]; done), by repeat (first | exact Drawn0.refl _ | apply Drawn0.step)⟩
        · rw [if_neg c7] at H
          have c7b0 : decide (a1 ≤ (l0.length : Int)) = false := decide_eq_false c7
          clear c7
          obtain rfl := Option.some.inj H
          go_enter Try.func26, Try.ntmps26
          go_wp2
          go_ret
          exact ⟨by first | rfl | (simp; done) | (simp [*]; done), by repeat (first | exact Drawn0.refl _ | apply Drawn0.step)⟩
      · rw [if_neg c6] at H
        have c6b0 : decide (0 ≤ a1) = false := decide_eq_false c6
        clear c6
        obtain rfl := Option.some.inj H
        go_enter Try.func26, Try.ntmps26
        go_wp2
        go_ret
        exact ⟨by first | rfl | (simp; done) | (simp [*]; done), by repeat (first | exact Drawn0.refl _ | apply Drawn0.step)⟩
    · rw [if_neg c5] at H
      have c5b0 : decide (a2 ≤ 8) = false := decide_eq_false c5
      clear c5
      obtain rfl := Option.some.inj H
      go_enter Try.func26, Try.ntmps26
      go_wp2
      go_ret
      exact ⟨by first | rfl | (simp; done) | (simp [*]; done), by repeat (first | exact Drawn0.refl _ | apply Drawn0.step)⟩
  · rw [if_neg c4] at H
    have c4b0 : decide (0 ≤ a2) = false := decide_eq_false c4
    clear c4
    obtain rfl := Option.some.inj H
    go_enter Try.func26, Try.ntmps26
    go_wp2
    go_ret
    exact ⟨by first | rfl | (simp; done) | (simp [*]; done), by repeat (first | exact Drawn0.refl _ | apply Drawn0.step)⟩

/-! ### word_Get: function 18 -/
def word_Get.l0 : Nat → List Int → Int → Int → Int → Int → Option (Int × Bool)
  | 0, _, _, _, _, _ => none
  | k + 1, x0, x1, x8, x15, x16 => if x16 < x15 then (if 0 ≤ (wrap64 (x1 + x16)) then (if (wrap64 (x1 + x16)) < (x0.length : Int) then (if 0 ≤ (wrap64 (8 * x16)) then (word_Get.l0 k x0 x1 (Go.bits .or .u64 x8 (shl .u64 (IntKind.u64.wrap (rd x0 (wrap64 (x1 + x16)))) (wrap64 (8 * x16)))) x15 (wrap64 (x16 + 1))) else (none)) else (none)) else (none)) else (some (x8, true))
def word_Get.f (k : Nat) (l0 : List Int) (a1 : Int) (a2 : Int) : Option (Int × Bool) := (word_there.f l0 a1 a2).bind fun t101 => (if t101 = true then (word_Get.l0 k l0 a1 0 a2 0) else (some (0, false)))
theorem word_Get.mono_l : ∀ k, (∀ y0 y1 y2 y3 y4, LeO (word_Get.l0 k y0 y1 y2 y3 y4) (word_Get.l0 (k + 1) y0 y1 y2 y3 y4))
  | 0 => fun _ _ _ _ _ r h => by simp [word_Get.l0] at h
  | k + 1 => by
    have ih0 := word_Get.mono_l k
    · intro y0 y1 y2 y3 y4
      unfold word_Get.l0
      repeat' first
      | (with_reducible exact ih0 _ _ _ _ _)
      | (with_reducible exact LeO.refl _)
      | (with_reducible exact LeO.none _)
      | (with_reducible refine LeO.ite ?_ ?_)
      | (with_reducible refine LeO.bind ?_ (fun _ => ?_))
      | exact ih0 _ _ _ _ _
      | exact LeO.none _
      | refine LeO.ite ?_ ?_
      | refine LeO.bind ?_ (fun _ => ?_)
theorem word_Get.mono : ∀ a0 a1 a2 k, LeO (word_Get.f k a0 a1 a2) (word_Get.f (k + 1) a0 a1 a2) := by
  intro a0 a1 a2 k
  have ih0 := word_Get.mono_l k
  unfold word_Get.f
  repeat' first
      | (with_reducible exact ih0 _ _ _ _ _)
      | (with_reducible exact LeO.refl _)
      | (with_reducible exact LeO.none _)
      | (with_reducible refine LeO.ite ?_ ?_)
      | (with_reducible refine LeO.bind ?_ (fun _ => ?_))
      | exact ih0 _ _ _ _ _
      | exact LeO.none _
      | refine LeO.ite ?_ ?_
      | refine LeO.bind ?_ (fun _ => ?_)
set_option maxHeartbeats 8000000 in
set_option maxRecDepth 100000 in
theorem word_Get.calls (k : Nat) (A0 : Option Addr) (c0 : Nat) (l0 : List Int) (a1 : Int) (a2 : Int) (r1 : Int) (r2 : Bool) (w : World) (hr0 : Kd.C (Kd.int .u8) w A0 l0.length l0) (hc0 : l0.length ≤ c0) (h : word_Get.f k l0 a1 a2 = some (r1, r2)) :
    Calls Try.prog 18 #[.slice A0 l0.length c0, .int .i64 a1, .int .i64 a2] w fun e w' => e = .returned (.tuple #[.int .u64 r1, .bool r2]) ∧ Drawn0 w w' := by
  have HR0 := Aside0.mk hr0
  have HC0 := Aside0.mk hc0
  clear hr0 hc0
  have H : ((word_there.f l0 a1 a2).bind fun t101 => (if t101 = true then (word_Get.l0 k l0 a1 0 a2 0) else (some (0, false)))) = some (r1, r2) := h
  clear h
  replace H := Option.bind_eq_some_iff.mp H
  obtain ⟨t101, A40, H⟩ := H
  replace H : (if t101 = true then (word_Get.l0 k l0 a1 0 a2 0) else (some (0, false))) = some (r1, r2) := H
  have A4 := Aside0.mk A40
  clear A40
  by_cases c5 : t101 = true
  · subst c5
    have H1 : (word_Get.l0 k l0 a1 0 a2 0) = some (r1, r2) := by rw [if_pos rfl] at H; exact H
    clear H
    have H := H1
    clear H1
    have H' := Aside0.mk H
    clear H
    go_enter Try.func18, Try.ntmps18
    go_wp2_with (first | ((with_reducible refine gate_callee (f := 26) rfl ?_); refine goesL_ (some 13) rfl rfl Try.func26 (by kernel_rfl) rfl #[.slice A0 l0.length c0, .int .i64 a1, .int .i64 a2] rfl (by (try simp only [List.map_toArray, List.map_cons, List.map_nil]); first | done | rfl | (simp only [List.length_drop, List.length_take]; rfl)) ?_; (with_reducible refine (word_there.calls _ _ l0 a1 a2 true _ ?side1 ?side2 A4.out).mono ?_); (case side1 => repeat (first | exact HR0.out | (with_reducible refine Kd.C_alloc ?_ _) | (with_reducible refine Kd.C_drewN ?_ _) | (with_reducible refine Kd.C_drew ?_))); (case side2 => exact HC0.out); rintro e w' ⟨rfl, ⟨nd, rfl⟩⟩; refine ⟨_, rfl, ?_⟩))
    go_loopg [8, 16] k (fun kq v8 v16 w' => ∃ (x8_1 : Int) (x16_1 : Int), v8 = .int .u64 x8_1 ∧ v16 = .int .i64 x16_1 ∧ Aside0 (word_Get.l0 kq l0 a1 x8_1 a2 x16_1 = some (r1, r2)) ∧ Aside0 (kq ≤ k) ∧ Drawn0 w w')
    case atStart => exact ⟨(0), (0), (by first | rfl | (simp; done) | (simp [*]; done)), (by first | rfl | (simp; done) | (simp [*]; done)), H', ⟨Nat.le_refl _⟩, by repeat (first | exact Drawn0.refl _ | apply Drawn0.step)⟩
    case round =>
      clear H'
      try clear c1
      try clear c2
      try clear p2
      try clear c5
      obtain ⟨x8_1, x16_1, rfl, rfl, HA, HK1, ⟨m1, rfl⟩⟩ := hrel
      cases gk with
      | zero => exact absurd HA.out (by simp [word_Get.l0])
      | succ k1 =>
        have H := HA.out
        clear HA
        simp only [word_Get.l0] at H
        by_cases c6 : x16_1 < a2
        · rw [if_pos c6] at H
          have c6b0 : decide (x16_1 < a2) = true := decide_eq_true c6
          clear c6
          obtain ⟨ji7, hji7⟩ : ∃ j_ : Int, (wrap64 (a1 + x16_1)) = j_ := ⟨_, rfl⟩
          replace H : (if 0 ≤ (ji7) then (if (ji7) < (l0.length : Int) then (if 0 ≤ (wrap64 (8 * x16_1)) then (word_Get.l0 k1 l0 a1 (Go.bits .or .u64 x8_1 (shl .u64 (IntKind.u64.wrap (rd l0 (ji7))) (wrap64 (8 * x16_1)))) a2 (wrap64 (x16_1 + 1))) else (none)) else (none)) else (none)) = some (r1, r2) := by first | (rw [hji7] at H; exact H) | (simp only [hji7] at H ⊢; exact H)
          have hji7w : (IntKind.i64.wrap (a1 + x16_1)) = ji7 := (i64_w _).trans hji7
          by_cases c8 : 0 ≤ (ji7)
          · rw [if_pos c8] at H
            have c8b0 : decide (0 ≤ (ji7)) = true := decide_eq_true c8
            clear c8
            by_cases c9 : (ji7) < (l0.length : Int)
            · rw [if_pos c9] at H
              have c9b0 : decide ((ji7) < (l0.length : Int)) = true := decide_eq_true c9
              clear c9
              obtain ⟨ji10, hji10⟩ : ∃ j_ : Int, (wrap64 (8 * x16_1)) = j_ := ⟨_, rfl⟩
              replace H : (if 0 ≤ (ji10) then (word_Get.l0 k1 l0 a1 (Go.bits .or .u64 x8_1 (shl .u64 (IntKind.u64.wrap (rd l0 (ji7))) (ji10))) a2 (wrap64 (x16_1 + 1))) else (none)) = some (r1, r2) := by first | (rw [hji10] at H; exact H) | (simp only [hji10] at H ⊢; exact H)
              have hji10w : (IntKind.i64.wrap (8 * x16_1)) = ji10 := (i64_w _).trans hji10
              by_cases c11 : 0 ≤ (ji10)
              · rw [if_pos c11] at H
                have c11b0 := eq_true c11
                have c11b1 : decide (0 ≤ (ji10)) = true := decide_eq_true c11
                clear c11
                obtain ⟨ji12, hji12⟩ : ∃ j_ : Int, (shl .u64 (IntKind.u64.wrap (rd l0 (ji7))) (ji10)) = j_ := ⟨_, rfl⟩
                replace H : (word_Get.l0 k1 l0 a1 (Go.bits .or .u64 x8_1 (ji12)) a2 (wrap64 (x16_1 + 1))) = some (r1, r2) := by first | (rw [hji12] at H; exact H) | (simp only [hji12] at H ⊢; exact H)
                have hji12_ : (IntKind.u64.wrap ((IntKind.u64.wrap (rd l0 (ji7))) * 2 ^ min (ji10).toNat 64)) = ji12 := hji12
                have hji12z : (ji10) ≤ 64 → (IntKind.u64.wrap ((IntKind.u64.wrap (rd l0 (ji7))) * 2 ^ (ji10).toNat)) = ji12 := shl_small hji12
                have H' := Aside0.mk H
                clear H
                have p102 : 0 ≤ ((ji7) : Int) := of_decide_eq_true (by first | (with_reducible assumption) | assumption)
                have q102 : (ji7) < (l0.length : Int) := of_decide_eq_true (by first | (with_reducible assumption) | assumption)
                obtain ⟨ad102, e102, hx102_0⟩ := Kd.at_int HR0.out (ji7) p102 q102
                cases e102
                replace p102 := eq_true p102
                replace q102 := eq_true q102
                go_wp2
                go_roundg k1
                case measure => have := HK1.out; omega
                case rel => exact ⟨(Go.bits .or .u64 x8_1 (ji12)), (wrap64 (x16_1 + 1)), (by first | rfl | (simp; done) | (simp only [← hji12] <;> (first | rfl | simp)) | (simp [*]; done)), (by first | rfl | (simp; done) | (simp [*]; done)), H', ⟨by have := HK1.out; omega⟩, by repeat (first | exact Drawn0.refl _ | apply Drawn0.step)⟩
              · rw [if_neg c11] at H
                exact absurd H (by simp)
            · rw [if_neg c9] at H
              exact absurd H (by simp)
          · rw [if_neg c8] at H
            exact absurd H (by simp)
        · rw [if_neg c6] at H
          have c6b0 : decide (x16_1 < a2) = false := decide_eq_false c6
          clear c6
          simp only [Option.some.injEq, Prod.mk.injEq] at H
          obtain ⟨rfl, rfl⟩ := H
          go_wp2
          go_ret2
          exact ⟨by first | rfl | (simp; done) | (simp [*]; done), by repeat (first | exact Drawn0.refl _ | apply Drawn0.step)⟩
  · replace c5 := Bool.eq_false_iff.mpr c5
    subst c5
    have H1 : (some (0, false)) = some (r1, r2) := by rw [if_neg (show ¬ (false = true) by decide)] at H; exact H
    clear H
    have H := H1
    clear H1
    simp only [Option.some.injEq, Prod.mk.injEq] at H
    obtain ⟨rfl, rfl⟩ := H
    go_enter Try.func18, Try.ntmps18
    go_wp2_with (first | ((with_reducible refine gate_callee (f := 26) rfl ?_); refine goesL_ (some 13) rfl rfl Try.func26 (by kernel_rfl) rfl #[.slice A0 l0.length c0, .int .i64 a1, .int .i64 a2] rfl (by (try simp only [List.map_toArray, List.map_cons, List.map_nil]); first | done | rfl | (simp only [List.length_drop, List.length_take]; rfl)) ?_; (with_reducible refine (word_there.calls _ _ l0 a1 a2 false _ ?side1 ?side2 A4.out).mono ?_); (case side1 => repeat (first | exact HR0.out | (with_reducible refine Kd.C_alloc ?_ _) | (with_reducible refine Kd.C_drewN ?_ _) | (with_reducible refine Kd.C_drew ?_))); (case side2 => exact HC0.out); rintro e w' ⟨rfl, ⟨nd, rfl⟩⟩; refine ⟨_, rfl, ?_⟩))
    go_ret2
    exact ⟨by first | rfl | (simp; done) | (simp [*]; done), by repeat (first | exact Drawn0.refl _ | apply Drawn0.step)⟩

/-! ### word_Put: function 20 -/
def word_Put.l0 : Nat → List Int → Int → Int → Int → Int → Option (Bool × List Int)
  | 0, _, _, _, _, _ => none
  | k + 1, x0, x1, x2, x15, x16 => if x16 < x15 then (if 0 ≤ (wrap64 (8 * x16)) then (if 0 ≤ (wrap64 (x1 + x16)) then (if (wrap64 (x1 + x16)) < (x0.length : Int) then (word_Put.l0 k (x0.set ((wrap64 (x1 + x16)) : Int).toNat ((shr .u64 x2 (wrap64 (8 * x16))) % 256)) x1 x2 x15 (wrap64 (x16 + 1))) else (none)) else (none)) else (none)) else (some (true, x0))
def word_Put.f (k : Nat) (l0 : List Int) (a1 : Int) (a2 : Int) (a3 : Int) : Option (Bool × List Int) := (word_there.f l0 a1 a3).bind fun t103 => (if t103 = true then (word_Put.l0 k l0 a1 a2 a3 0) else (some (false, l0)))
theorem word_Put.mono_l : ∀ k, (∀ y0 y1 y2 y3 y4, LeO (word_Put.l0 k y0 y1 y2 y3 y4) (word_Put.l0 (k + 1) y0 y1 y2 y3 y4))
  | 0 => fun _ _ _ _ _ r h => by simp [word_Put.l0] at h
  | k + 1 => by
    have ih0 := word_Put.mono_l k
    · intro y0 y1 y2 y3 y4
      unfold word_Put.l0
      repeat' first
      | (with_reducible exact ih0 _ _ _ _ _)
      | (with_reducible exact LeO.refl _)
      | (with_reducible exact LeO.none _)
      | (with_reducible refine LeO.ite ?_ ?_)
      | (with_reducible refine LeO.bind ?_ (fun _ => ?_))
      | exact ih0 _ _ _ _ _
      | exact LeO.none _
      | refine LeO.ite ?_ ?_
      | refine LeO.bind ?_ (fun _ => ?_)
theorem word_Put.mono : ∀ a0 a1 a2 a3 k, LeO (word_Put.f k a0 a1 a2 a3) (word_Put.f (k + 1) a0 a1 a2 a3) := by
  intro a0 a1 a2 a3 k
  have ih0 := word_Put.mono_l k
  unfold word_Put.f
  repeat' first
      | (with_reducible exact ih0 _ _ _ _ _)
      | (with_reducible exact LeO.refl _)
      | (with_reducible exact LeO.none _)
      | (with_reducible refine LeO.ite ?_ ?_)
      | (with_reducible refine LeO.bind ?_ (fun _ => ?_))
      | exact ih0 _ _ _ _ _
      | exact LeO.none _
      | refine LeO.ite ?_ ?_
      | refine LeO.bind ?_ (fun _ => ?_)
set_option maxHeartbeats 8000000 in
set_option maxRecDepth 100000 in
theorem word_Put.calls (k : Nat) (P0_ : Nat → Prop) (u9000_ : Value) (l0 : List Int) (a1 : Int) (a2 : Int) (a3 : Int) (r1 : Bool) (r2 : List Int) (w0 w : World) (hB : Below w0.heap.size w0 w) (ho0 : Kd.R (Kd.int .u8) 5 w w0.heap.size P0_ u9000_ l0) (h : word_Put.f k l0 a1 a2 a3 = some (r1, r2)) :
    Calls Try.prog 20 #[u9000_, .int .i64 a1, .int .u64 a2, .int .i64 a3] w fun e w' => e = .returned (.bool r1) ∧ Kd.R (Kd.int .u8) 5 w' w0.heap.size (fun k_ => (P0_ k_ ∨ w.heap.size ≤ k_)) u9000_ r2 ∧ Below w0.heap.size w0 w' ∧ Kept w w' (fun k_ => P0_ k_) := by
  have HO0 := Aside0.mk (show Kd.R (Kd.int .u8) 5 w w0.heap.size (fun k_ => (P0_ k_ ∨ w.heap.size ≤ k_)) u9000_ l0 from Kd.R_mono ho0 (fun k_ hk => (.inl hk)))
  have HK := Aside0.mk (Kept.refl w (fun k_ => P0_ k_))
  have HW0 := Aside0.mk hB.size
  have HB := Aside0.mk hB
  clear hB
  have H : ((word_there.f l0 a1 a3).bind fun t103 => (if t103 = true then (word_Put.l0 k l0 a1 a2 a3 0) else (some (false, l0)))) = some (r1, r2) := h
  clear h
  replace H := Option.bind_eq_some_iff.mp H
  obtain ⟨t103, A50, H⟩ := H
  replace H : (if t103 = true then (word_Put.l0 k l0 a1 a2 a3 0) else (some (false, l0))) = some (r1, r2) := H
  have A5 := Aside0.mk A50
  clear A50
  by_cases c6 : t103 = true
  · subst c6
    have H1 : (word_Put.l0 k l0 a1 a2 a3 0) = some (r1, r2) := by rw [if_pos rfl] at H; exact H
    clear H
    have H := H1
    clear H1
    have H' := Aside0.mk H
    clear H
    obtain ⟨Ao7, co7, eo7⟩ := Kd.R_slice HO0.out
    subst eo7
    go_enter Try.func20, Try.ntmps20
    go_wp2_with (first | ((with_reducible refine gate_callee (f := 26) rfl ?_); refine goesL_ (some 13) rfl rfl Try.func26 (by kernel_rfl) rfl #[.slice Ao7 l0.length co7, .int .i64 a1, .int .i64 a3] rfl (by (try simp only [List.map_toArray, List.map_cons, List.map_nil]); first | done | rfl | (simp only [List.length_drop, List.length_take]; rfl)) ?_; (with_reducible refine (word_there.calls _ _ l0 a1 a3 true _ ?side1 ?side2 A5.out).mono ?_); (case side1 => repeat (first | exact (Kd.R_reads' HO0.out).2.2 | (with_reducible refine Kd.C_alloc ?_ _) | (with_reducible refine Kd.C_drewN ?_ _) | (with_reducible refine Kd.C_drew ?_))); (case side2 => exact (Kd.R_reads' HO0.out).2.1); rintro e w' ⟨rfl, ⟨nd, rfl⟩⟩; refine ⟨_, rfl, ?_⟩))
    go_loopg [16] k (fun kq v16 w' => ∃ (x0_1 : List Int) (x16_1 : Int), v16 = .int .i64 x16_1 ∧ Aside0 (word_Put.l0 kq x0_1 a1 a2 a3 x16_1 = some (r1, r2)) ∧ Aside0 (kq ≤ k) ∧ Aside0 (Kd.R (Kd.int .u8) 5 w' w0.heap.size (fun k_ => (P0_ k_ ∨ w.heap.size ≤ k_)) (.slice Ao7 l0.length co7) x0_1) ∧ Aside0 (Kept w w' (fun k_ => P0_ k_)) ∧ Aside0 (Below w0.heap.size w0 w'))
    case atStart => exact ⟨(l0), (0), (by first | rfl | (simp; done) | (simp [*]; done)), H', ⟨Nat.le_refl _⟩, ⟨by (with_reducible repeat (first | apply Kd.R_alloc | apply Kd.R_drewN | apply Kd.R_drew)); exact HO0.out⟩, ⟨by repeat (first | (with_reducible first | exact HK.out | apply Kept.alloc | apply Kept.drewN | apply Kept.drew) | exact HK.out)⟩, ⟨by repeat (first | (with_reducible first | exact HB.out | apply below_alloc | apply pw_below_drewN | apply below_drew1) | exact HB.out)⟩⟩
    case round =>
      clear H'
      try clear c2
      try clear p2
      try clear c6
      obtain ⟨x0_1, x16_1, rfl, HA, HK1, HO_0, HK, HB⟩ := hrel
      have hl0_1 := (Kd.R_reads' HO_0.out).1
      rw [hl0_1] at HO_0
      (try simp only [hl0_1])
      cases gk with
      | zero => exact absurd HA.out (by simp [word_Put.l0])
      | succ k1 =>
        have H := HA.out
        clear HA
        simp only [word_Put.l0] at H
        by_cases c8 : x16_1 < a3
        · rw [if_pos c8] at H
          have c8b0 : decide (x16_1 < a3) = true := decide_eq_true c8
          clear c8
          obtain ⟨ji9, hji9⟩ : ∃ j_ : Int, (wrap64 (8 * x16_1)) = j_ := ⟨_, rfl⟩
          replace H : (if 0 ≤ (ji9) then (if 0 ≤ (wrap64 (a1 + x16_1)) then (if (wrap64 (a1 + x16_1)) < (x0_1.length : Int) then (word_Put.l0 k1 (x0_1.set ((wrap64 (a1 + x16_1)) : Int).toNat ((shr .u64 a2 (ji9)) % 256)) a1 a2 a3 (wrap64 (x16_1 + 1))) else (none)) else (none)) else (none)) = some (r1, r2) := by first | (rw [hji9] at H; exact H) | (simp only [hji9] at H ⊢; exact H)
          have hji9w : (IntKind.i64.wrap (8 * x16_1)) = ji9 := (i64_w _).trans hji9
          by_cases c10 : 0 ≤ (ji9)
          · rw [if_pos c10] at H
            have c10b0 := eq_true c10
            have c10b1 : decide (0 ≤ (ji9)) = true := decide_eq_true c10
            clear c10
            obtain ⟨ji11, hji11⟩ : ∃ j_ : Int, (shr .u64 a2 (ji9)) = j_ := ⟨_, rfl⟩
            replace H : (if 0 ≤ (wrap64 (a1 + x16_1)) then (if (wrap64 (a1 + x16_1)) < (x0_1.length : Int) then (word_Put.l0 k1 (x0_1.set ((wrap64 (a1 + x16_1)) : Int).toNat ((ji11) % 256)) a1 a2 a3 (wrap64 (x16_1 + 1))) else (none)) else (none)) = some (r1, r2) := by first | (rw [hji11] at H; exact H) | (simp only [hji11] at H ⊢; exact H)
            have hji11_ : (a2 / 2 ^ min (ji9).toNat 64) = ji11 := hji11
            have hji11z : (ji9) ≤ 64 → (a2 / 2 ^ (ji9).toNat) = ji11 := shr_small hji11
            obtain ⟨ji12, hji12⟩ : ∃ j_ : Int, (wrap64 (a1 + x16_1)) = j_ := ⟨_, rfl⟩
            replace H : (if 0 ≤ (ji12) then (if (ji12) < (x0_1.length : Int) then (word_Put.l0 k1 (x0_1.set ((ji12) : Int).toNat ((ji11) % 256)) a1 a2 a3 (wrap64 (x16_1 + 1))) else (none)) else (none)) = some (r1, r2) := by first | (rw [hji12] at H; exact H) | (simp only [hji12] at H ⊢; exact H)
            have hji12w : (IntKind.i64.wrap (a1 + x16_1)) = ji12 := (i64_w _).trans hji12
            by_cases c13 : 0 ≤ (ji12)
            · rw [if_pos c13] at H
              have c13b0 : decide (0 ≤ (ji12)) = true := decide_eq_true c13
              clear c13
              by_cases c14 : (ji12) < (x0_1.length : Int)
              · rw [if_pos c14] at H
                have c14b0 : decide ((ji12) < (x0_1.length : Int)) = true := decide_eq_true c14
                clear c14
                obtain ⟨y104, hy104⟩ : ∃ y_ : List Int, y_ = (x0_1.set ((ji12) : Int).toNat ((ji11) % 256)) := ⟨_, rfl⟩
                replace H : (word_Put.l0 k1 y104 a1 a2 a3 (wrap64 (x16_1 + 1))) = some (r1, r2) := by first | (rw [hy104]; with_reducible exact H) | (have H2_ := (Option.bind_some _ _).symm.trans H; rw [hy104]; with_reducible exact H2_) | (have H2_ := (Option.bind_some _ _).symm.trans H; with_reducible exact H2_) | with_reducible exact H | (rw [hy104]; exact H) | exact H
                have Ny104 := Aside0.mk hy104
                clear hy104
                have H' := Aside0.mk H
                clear H
                have p15 : 0 ≤ ((ji12) : Int) := of_decide_eq_true (by first | (with_reducible assumption) | assumption)
                have q15 : ((ji12) : Int) < ((x0_1.length : Int) : Int) := of_decide_eq_true (by first | (with_reducible assumption) | assumption)
                obtain ⟨go15, co15, eo15, gb15, gl15, cl15, HG15⟩ := Kd.R_form HO_0.out (by omega)
                (first | cases eo15 | (injection eo15 with ea_ en_ ec_; (first | subst ea_ | (injection ea_ with ea_; subst ea_)); subst ec_; clear en_))
                have GB15 := Aside0.mk gb15
                have GG15 := Aside0.mk HG15
                clear gb15 gl15 HG15
                have HMgo15 := Aside0.mk (show (P0_ go15 ∨ w.heap.size ≤ go15) from (HO_0.out.1 _ rfl))
                obtain ⟨hx15_0, hf15_0⟩ := Kd.R_celln 0 HO_0.out ((ji12) : Int) p15 q15
                replace p15 := eq_true p15
                replace q15 := eq_true q15
                have HP16 := Kd.R_putg HO_0.out ((ji12) : Int) ((ji11) % 256)
                go_wp2_with (first | ((with_reducible refine gate_store (t := 5) (p := 28) rfl ?_); refine store_event (t := 5) (p := 28) (v := ?vo_w17) (w1 := (wr.setCell ⟨go15, ((ji12) : Int).toNat, none⟩ (.int .u8 ((ji11) % 256)))) ?hg ?ho ?hn ?hr ?_; (case ho => rfl); (case hg => rfl); (case hn => rfl); (case hr => first | (go_simp; done) | (go_simp; rfl)); intro w17 hw; have hg : wr.grownBy w17 (some go15) := (by rw [hw]; exact HP16.2); have hp_ : Kd.R (Kd.int .u8) 5 w17 w0.heap.size (fun k_ => (P0_ k_ ∨ w.heap.size ≤ k_)) (.slice (some ⟨go15, 0, none⟩) x0_1.length co7) y104 := (by rw [hw, Ny104.out]; exact HP16.1); clear HP16; have n0_ := Aside0.mk (hp_); have n1_ := Aside0.mk ((by rw [hw]; exact below_set (HB.out) GB15.out : Below w0.heap.size w0 w17)); have n2_ := Aside0.mk (Kept.of_grown (S := (fun k_ => P0_ k_)) hg (by repeat (first | (with_reducible first | exact HK.out | apply Kept.alloc | apply Kept.drewN | apply Kept.drew) | exact HK.out)) (fun k_ e_ => (HO_0.out.1 k_ e_))); clear HO_0; clear HB; clear HK; have HO_0 := n0_; have HB := n1_; have HK := n2_; clear n0_ n1_ n2_; clear hg hw hp_))
                (try simp only [← hl0_1])
                go_roundg k1
                case measure => have := HK1.out; omega
                case rel => exact ⟨(y104), (wrap64 (x16_1 + 1)), (by first | rfl | (simp; done) | (simp [*]; done)), H', ⟨by have := HK1.out; omega⟩, ⟨by (try simp only [hl0_1]); (with_reducible repeat (first | apply Kd.R_alloc | apply Kd.R_drewN | apply Kd.R_drew)); exact HO_0.out⟩, ⟨by repeat (first | (with_reducible first | exact HK.out | apply Kept.alloc | apply Kept.drewN | apply Kept.drew) | exact HK.out)⟩, ⟨by repeat (first | (with_reducible first | exact HB.out | apply below_alloc | apply pw_below_drewN | apply below_drew1) | exact HB.out)⟩⟩
              · rw [if_neg c14] at H
                exact absurd H (by simp)
            · rw [if_neg c13] at H
              exact absurd H (by simp)
          · rw [if_neg c10] at H
            exact absurd H (by simp)
        · rw [if_neg c8] at H
          have c8b0 : decide (x16_1 < a3) = false := decide_eq_false c8
          clear c8
          simp only [Option.some.injEq, Prod.mk.injEq] at H
          obtain ⟨rfl, rfl⟩ := H
          go_wp2
          go_ret
          exact ⟨by first | rfl | (simp [errW_none, errW_some] <;> rfl) | (simp [*, errW_none, errW_some] <;> rfl), (by first | exact (by (with_reducible repeat (first | apply Kd.R_alloc | apply Kd.R_drewN | apply Kd.R_drew)); exact HO_0.out) | (simp only [hl0_1]; exact (by (with_reducible repeat (first | apply Kd.R_alloc | apply Kd.R_drewN | apply Kd.R_drew)); exact HO_0.out))), by repeat (first | (with_reducible first | exact HB.out | apply below_alloc | apply pw_below_drewN | apply below_drew1) | exact HB.out), by repeat (first | (with_reducible first | exact HK.out | apply Kept.alloc | apply Kept.drewN | apply Kept.drew) | exact HK.out)⟩
  · replace c6 := Bool.eq_false_iff.mpr c6
    subst c6
    have H1 : (some (false, l0)) = some (r1, r2) := by rw [if_neg (show ¬ (false = true) by decide)] at H; exact H
    clear H
    have H := H1
    clear H1
    simp only [Option.some.injEq, Prod.mk.injEq] at H
    obtain ⟨rfl, rfl⟩ := H
    obtain ⟨Ao18, co18, eo18⟩ := Kd.R_slice HO0.out
    subst eo18
    go_enter Try.func20, Try.ntmps20
    go_wp2_with (first | ((with_reducible refine gate_callee (f := 26) rfl ?_); refine goesL_ (some 13) rfl rfl Try.func26 (by kernel_rfl) rfl #[.slice Ao18 l0.length co18, .int .i64 a1, .int .i64 a3] rfl (by (try simp only [List.map_toArray, List.map_cons, List.map_nil]); first | done | rfl | (simp only [List.length_drop, List.length_take]; rfl)) ?_; (with_reducible refine (word_there.calls _ _ l0 a1 a3 false _ ?side1 ?side2 A5.out).mono ?_); (case side1 => repeat (first | exact (Kd.R_reads' HO0.out).2.2 | (with_reducible refine Kd.C_alloc ?_ _) | (with_reducible refine Kd.C_drewN ?_ _) | (with_reducible refine Kd.C_drew ?_))); (case side2 => exact (Kd.R_reads' HO0.out).2.1); rintro e w' ⟨rfl, ⟨nd, rfl⟩⟩; refine ⟨_, rfl, ?_⟩))
    go_ret
    exact ⟨by first | rfl | (simp [errW_none, errW_some] <;> rfl) | (simp [*, errW_none, errW_some] <;> rfl), by (with_reducible repeat (first | apply Kd.R_alloc | apply Kd.R_drewN | apply Kd.R_drew)); exact HO0.out, by repeat (first | (with_reducible first | exact HB.out | apply below_alloc | apply pw_below_drewN | apply below_drew1) | exact HB.out), by repeat (first | (with_reducible first | exact HK.out | apply Kept.alloc | apply Kept.drewN | apply Kept.drew) | exact HK.out)⟩

/-! ### word_Sum: function 23 -/
mutual
def word_Sum.l0 : Nat → Int → List (List Int) → Int → Int → Option (Int)
  | 0, _, _, _, _ => none
  | k + 1, x3, x8, x9, x10 => if x10 < x9 then (if 0 ≤ x10 then (if x10 < (x8.length : Int) then (word_Sum.l1 k x3 x8 x9 x10 (rd_L1 x8 x10) ((rd_L1 x8 x10).length : Int) 0) else (none)) else (none)) else (some (Go.bits .xor .u32 ((x3 / 4294967296) % 4294967296) ((x3) % 4294967296)))
def word_Sum.l1 : Nat → Int → List (List Int) → Int → Int → List Int → Int → Int → Option (Int)
  | 0, _, _, _, _, _, _, _ => none
  | k + 1, x3, x8, x9, x10, x14, x15, x16 => if x16 < x15 then (if 0 ≤ x16 then (if x16 < (x14.length : Int) then (word_Sum.l1 k (IntKind.u64.wrap ((Go.bits .xor .u64 x3 (IntKind.u64.wrap (rd x14 x16))) * 1099511628211)) x8 x9 x10 x14 x15 (wrap64 (x16 + 1))) else (none)) else (none)) else (word_Sum.l0 k x3 x8 x9 (wrap64 (x10 + 1)))
end
def word_Sum.f (k : Nat) (l0 : List (List Int)) : Option (Int) := word_Sum.l0 k 14695981039346656037 l0 (l0.length : Int) 0
theorem word_Sum.mono_l : ∀ k, (∀ y0 y1 y2 y3, LeO (word_Sum.l0 k y0 y1 y2 y3) (word_Sum.l0 (k + 1) y0 y1 y2 y3)) ∧ (∀ y0 y1 y2 y3 y4 y5 y6, LeO (word_Sum.l1 k y0 y1 y2 y3 y4 y5 y6) (word_Sum.l1 (k + 1) y0 y1 y2 y3 y4 y5 y6))
  | 0 => ⟨fun _ _ _ _ r h => by simp [word_Sum.l0] at h, fun _ _ _ _ _ _ _ r h => by simp [word_Sum.l1] at h⟩
  | k + 1 => by
    obtain ⟨ih0, ih1⟩ := word_Sum.mono_l k
    refine ⟨?_, ?_⟩
    · intro y0 y1 y2 y3
      unfold word_Sum.l0
      repeat' first
      | (with_reducible exact ih0 _ _ _ _)
      | (with_reducible exact ih1 _ _ _ _ _ _ _)
      | (with_reducible exact LeO.refl _)
      | (with_reducible exact LeO.none _)
      | (with_reducible refine LeO.ite ?_ ?_)
      | (with_reducible refine LeO.bind ?_ (fun _ => ?_))
      | exact ih0 _ _ _ _
      | exact ih1 _ _ _ _ _ _ _
      | exact LeO.none _
      | refine LeO.ite ?_ ?_
      | refine LeO.bind ?_ (fun _ => ?_)
    · intro y0 y1 y2 y3 y4 y5 y6
      unfold word_Sum.l1
      repeat' first
      | (with_reducible exact ih0 _ _ _ _)
      | (with_reducible exact ih1 _ _ _ _ _ _ _)
      | (with_reducible exact LeO.refl _)
      | (with_reducible exact LeO.none _)
      | (with_reducible refine LeO.ite ?_ ?_)
      | (with_reducible refine LeO.bind ?_ (fun _ => ?_))
      | exact ih0 _ _ _ _
      | exact ih1 _ _ _ _ _ _ _
      | exact LeO.none _
      | refine LeO.ite ?_ ?_
      | refine LeO.bind ?_ (fun _ => ?_)
theorem word_Sum.mono : ∀ a0 k, LeO (word_Sum.f k a0) (word_Sum.f (k + 1) a0) := by
  intro a0 k
  obtain ⟨ih0, ih1⟩ := word_Sum.mono_l k
  unfold word_Sum.f
  repeat' first
      | (with_reducible exact ih0 _ _ _ _)
      | (with_reducible exact ih1 _ _ _ _ _ _ _)
      | (with_reducible exact LeO.refl _)
      | (with_reducible exact LeO.none _)
      | (with_reducible refine LeO.ite ?_ ?_)
      | (with_reducible refine LeO.bind ?_ (fun _ => ?_))
      | exact ih0 _ _ _ _
      | exact ih1 _ _ _ _ _ _ _
      | exact LeO.none _
      | refine LeO.ite ?_ ?_
      | refine LeO.bind ?_ (fun _ => ?_)
set_option maxHeartbeats 8000000 in
set_option maxRecDepth 100000 in
theorem word_Sum.calls (k : Nat) (A0 : Option Addr) (c0 : Nat) (l0 : List (List Int)) (r : Int) (w : World) (hr0 : Kd.C (Kd.slice 5 (Kd.int .u8)) w A0 l0.length l0) (hc0 : l0.length ≤ c0) (h : word_Sum.f k l0 = some r) :
    Calls Try.prog 23 #[.slice A0 l0.length c0] w fun e w' => e = .returned (.int .u32 r) ∧ Drawn0 w w' := by
  have HR0 := Aside0.mk hr0
  have HC0 := Aside0.mk hc0
  clear hr0 hc0
  have H : (word_Sum.l0 k 14695981039346656037 l0 (l0.length : Int) 0) = some r := h
  clear h
  have H' := Aside0.mk H
  clear H
  go_enter Try.func23, Try.ntmps23
  go_wp2
  go_loopg [3, 10] k (fun kq v3 v10 w' => ∃ (x3_1 : Int) (x10_1 : Int), v3 = .int .u64 x3_1 ∧ v10 = .int .i64 x10_1 ∧ Aside0 (word_Sum.l0 kq x3_1 l0 (l0.length : Int) x10_1 = some r) ∧ Aside0 (kq ≤ k) ∧ Drawn0 w w')
  case atStart => exact ⟨(14695981039346656037), (0), (by first | rfl | (simp; done) | (simp [*]; done)), (by first | rfl | (simp; done) | (simp [*]; done)), H', ⟨Nat.le_refl _⟩, by repeat (first | exact Drawn0.refl _ | apply Drawn0.step)⟩
  case round =>
    clear H'
    obtain ⟨x3_1, x10_1, rfl, rfl, HA, HK1, ⟨m1, rfl⟩⟩ := hrel
    cases gk with
    | zero => exact absurd HA.out (by simp [word_Sum.l0])
    | succ k1 =>
      have H := HA.out
      clear HA
      simp only [word_Sum.l0] at H
      by_cases c2 : x10_1 < (l0.length : Int)
      · rw [if_pos c2] at H
        have c2b0 : decide (x10_1 < (l0.length : Int)) = true := decide_eq_true c2
        clear c2
        by_cases c3 : 0 ≤ x10_1
        · rw [if_pos c3] at H
          have c3b0 : decide (0 ≤ x10_1) = true := decide_eq_true c3
          clear c3
          by_cases c4 : x10_1 < (l0.length : Int)
          · rw [if_pos c4] at H
            have c4b0 : decide (x10_1 < (l0.length : Int)) = true := decide_eq_true c4
            clear c4
            have H' := Aside0.mk H
            clear H
            have p105 : 0 ≤ (x10_1 : Int) := of_decide_eq_true (by first | (with_reducible assumption) | assumption)
            have q105 : x10_1 < (l0.length : Int) := of_decide_eq_true (by first | (with_reducible assumption) | assumption)
            obtain ⟨ad105, A105_0, c105_0, e105, hx105_0, hl105_0, hi105_0⟩ := at_L1 HR0.out x10_1 p105 q105
            cases e105
            have HR105_0 := Aside0.mk hi105_0
            have HC105_0 := Aside0.mk hl105_0
            clear hi105_0 hl105_0
            replace p105 := eq_true p105
            replace q105 := eq_true q105
            go_wp2
            go_loopg [3, 16] k1 (fun kq v3 v16 w' => ∃ (x3_2 : Int) (x16_2 : Int), v3 = .int .u64 x3_2 ∧ v16 = .int .i64 x16_2 ∧ Aside0 (word_Sum.l1 kq x3_2 l0 (l0.length : Int) x10_1 (rd_L1 l0 x10_1) ((rd_L1 l0 x10_1).length : Int) x16_2 = some r) ∧ Aside0 (kq ≤ k1) ∧ Drawn0 w w')
            case atStart => exact ⟨(x3_1), (0), (by first | rfl | (simp; done) | (simp [*]; done)), (by first | rfl | (simp; done) | (simp [*]; done)), H', ⟨Nat.le_refl _⟩, by repeat (first | exact Drawn0.refl _ | apply Drawn0.step)⟩
            case round =>
              clear H'
              try clear c1
              try clear p1
              try clear q1
              try clear hx1
              try clear c2
              try clear c2b0
              try clear p2
              try clear c3
              try clear c3b0
              try clear c4
              try clear c4b0
              try clear hx105_0
              try clear p105
              try clear q105
              obtain ⟨x3_2, x16_2, rfl, rfl, HA, HK2, ⟨m2, rfl⟩⟩ := hrel
              cases gk with
              | zero => exact absurd HA.out (by simp [word_Sum.l1])
              | succ k2 =>
                have H := HA.out
                clear HA
                simp only [word_Sum.l1] at H
                by_cases c5 : x16_2 < ((rd_L1 l0 x10_1).length : Int)
                · rw [if_pos c5] at H
                  have c5b0 : decide (x16_2 < ((rd_L1 l0 x10_1).length : Int)) = true := decide_eq_true c5
                  clear c5
                  by_cases c6 : 0 ≤ x16_2
                  · rw [if_pos c6] at H
                    have c6b0 : decide (0 ≤ x16_2) = true := decide_eq_true c6
                    clear c6
                    by_cases c7 : x16_2 < ((rd_L1 l0 x10_1).length : Int)
                    · rw [if_pos c7] at H
                      have c7b0 : decide (x16_2 < ((rd_L1 l0 x10_1).length : Int)) = true := decide_eq_true c7
                      clear c7
                      have H' := Aside0.mk H
                      clear H
                      have p106 : 0 ≤ (x16_2 : Int) := of_decide_eq_true (by first | (with_reducible assumption) | assumption)
                      have q106 : x16_2 < ((rd_L1 l0 x10_1).length : Int) := of_decide_eq_true (by first | (with_reducible assumption) | assumption)
                      obtain ⟨ad106, e106, hx106_0⟩ := Kd.at_int HR105_0.out x16_2 p106 q106
                      cases e106
                      replace p106 := eq_true p106
                      replace q106 := eq_true q106
                      go_wp2
                      go_roundg k2
                      case measure => have := HK1.out; have := HK2.out; omega
                      case rel => exact ⟨(IntKind.u64.wrap ((Go.bits .xor .u64 x3_2 (IntKind.u64.wrap (rd (rd_L1 l0 x10_1) x16_2))) * 1099511628211)), (wrap64 (x16_2 + 1)), (by first | rfl | (simp; done) | (simp [*]; done)), (by first | rfl | (simp; done) | (simp [*]; done)), H', ⟨by have := HK1.out; have := HK2.out; omega⟩, by repeat (first | exact Drawn0.refl _ | apply Drawn0.step)⟩
                    · rw [if_neg c7] at H
                      exact absurd H (by simp)
                  · rw [if_neg c6] at H
                    exact absurd H (by simp)
                · rw [if_neg c5] at H
                  have c5b0 : decide (x16_2 < ((rd_L1 l0 x10_1).length : Int)) = false := decide_eq_false c5
                  clear c5
                  have H' := Aside0.mk H
                  clear H
                  go_wp2
                  go_roundg k2
                  case measure => have := HK1.out; have := HK2.out; omega
                  case rel => exact ⟨(x3_2), (wrap64 (x10_1 + 1)), (by first | rfl | (simp; done) | (simp [*]; done)), (by first | rfl | (simp; done) | (simp [*]; done)), H', ⟨by have := HK1.out; have := HK2.out; omega⟩, by repeat (first | exact Drawn0.refl _ | apply Drawn0.step)⟩
          · rw [if_neg c4] at H
            exact absurd H (by simp)
        · rw [if_neg c3] at H
          exact absurd H (by simp)
      · rw [if_neg c2] at H
        have c2b0 : decide (x10_1 < (l0.length : Int)) = false := decide_eq_false c2
        clear c2
        obtain rfl := Option.some.inj H
        go_wp2
        go_ret
        exact ⟨by first | rfl | (simp; done) | (simp [*]; done), by repeat (first | exact Drawn0.refl _ | apply Drawn0.step)⟩

/-! ### headlandref01_Sum: function 24 -/
def headlandref01_Sum.l0 : Nat → List Int → Int → Int → Option (Int)
  | 0, _, _, _ => none
  | k + 1, x0, x3, x4 => if x4 < (x0.length : Int) then (if 0 ≤ x4 then (headlandref01_Sum.l0 k x0 (IntKind.u64.wrap ((Go.bits .xor .u64 x3 (IntKind.u64.wrap (rd x0 x4))) * 1099511628211)) (wrap64 (x4 + 1))) else (none)) else (some (Go.bits .xor .u32 ((IntKind.u64.wrap (Int.tdiv x3 4294967296)) % 4294967296) ((Int.tmod x3 4294967296) % 4294967296)))
def headlandref01_Sum.f (k : Nat) (l0 : List Int) : Option (Int) := headlandref01_Sum.l0 k l0 14695981039346656037 0
theorem headlandref01_Sum.mono_l : ∀ k, (∀ y0 y1 y2, LeO (headlandref01_Sum.l0 k y0 y1 y2) (headlandref01_Sum.l0 (k + 1) y0 y1 y2))
  | 0 => fun _ _ _ r h => by simp [headlandref01_Sum.l0] at h
  | k + 1 => by
    have ih0 := headlandref01_Sum.mono_l k
    · intro y0 y1 y2
      unfold headlandref01_Sum.l0
      repeat' first
      | (with_reducible exact ih0 _ _ _)
      | (with_reducible exact LeO.refl _)
      | (with_reducible exact LeO.none _)
      | (with_reducible refine LeO.ite ?_ ?_)
      | (with_reducible refine LeO.bind ?_ (fun _ => ?_))
      | exact ih0 _ _ _
      | exact LeO.none _
      | refine LeO.ite ?_ ?_
      | refine LeO.bind ?_ (fun _ => ?_)
theorem headlandref01_Sum.mono : ∀ a0 k, LeO (headlandref01_Sum.f k a0) (headlandref01_Sum.f (k + 1) a0) := by
  intro a0 k
  have ih0 := headlandref01_Sum.mono_l k
  unfold headlandref01_Sum.f
  repeat' first
      | (with_reducible exact ih0 _ _ _)
      | (with_reducible exact LeO.refl _)
      | (with_reducible exact LeO.none _)
      | (with_reducible refine LeO.ite ?_ ?_)
      | (with_reducible refine LeO.bind ?_ (fun _ => ?_))
      | exact ih0 _ _ _
      | exact LeO.none _
      | refine LeO.ite ?_ ?_
      | refine LeO.bind ?_ (fun _ => ?_)
set_option maxHeartbeats 8000000 in
set_option maxRecDepth 100000 in
theorem headlandref01_Sum.calls (k : Nat) (A0 : Option Addr) (c0 : Nat) (l0 : List Int) (r : Int) (w : World) (hr0 : Kd.C (Kd.int .u8) w A0 l0.length l0) (hc0 : l0.length ≤ c0) (h : headlandref01_Sum.f k l0 = some r) :
    Calls Try.prog 24 #[.slice A0 l0.length c0] w fun e w' => e = .returned (.int .u32 r) ∧ Drawn0 w w' := by
  have HR0 := Aside0.mk hr0
  have HC0 := Aside0.mk hc0
  clear hr0 hc0
  have H : (headlandref01_Sum.l0 k l0 14695981039346656037 0) = some r := h
  clear h
  have H' := Aside0.mk H
  clear H
  go_enter Try.func24, Try.ntmps24
  go_wp2
  go_loopg [3, 4] k (fun kq v3 v4 w' => ∃ (x3_1 : Int) (x4_1 : Int), v3 = .int .u64 x3_1 ∧ v4 = .int .i64 x4_1 ∧ Aside0 (headlandref01_Sum.l0 kq l0 x3_1 x4_1 = some r) ∧ Aside0 (kq ≤ k) ∧ Drawn0 w w')
  case atStart => exact ⟨(14695981039346656037), (0), (by first | rfl | (simp; done) | (simp [*]; done)), (by first | rfl | (simp; done) | (simp [*]; done)), H', ⟨Nat.le_refl _⟩, by repeat (first | exact Drawn0.refl _ | apply Drawn0.step)⟩
  case round =>
    clear H'
    obtain ⟨x3_1, x4_1, rfl, rfl, HA, HK1, ⟨m1, rfl⟩⟩ := hrel
    cases gk with
    | zero => exact absurd HA.out (by simp [headlandref01_Sum.l0])
    | succ k1 =>
      have H := HA.out
      clear HA
      simp only [headlandref01_Sum.l0] at H
      by_cases c2 : x4_1 < (l0.length : Int)
      · rw [if_pos c2] at H
        have c2b0 : decide (x4_1 < (l0.length : Int)) = true := decide_eq_true c2
        clear c2
        by_cases c3 : 0 ≤ x4_1
        · rw [if_pos c3] at H
          have c3b0 : decide (0 ≤ x4_1) = true := decide_eq_true c3
          clear c3
          have H' := Aside0.mk H
          clear H
          have p107 : 0 ≤ (x4_1 : Int) := of_decide_eq_true (by first | (with_reducible assumption) | assumption)
          have q107 : x4_1 < (l0.length : Int) := of_decide_eq_true (by first | (with_reducible assumption) | assumption)
          obtain ⟨ad107, e107, hx107_0⟩ := Kd.at_int HR0.out x4_1 p107 q107
          cases e107
          replace p107 := eq_true p107
          replace q107 := eq_true q107
          go_wp2
          go_roundg k1
          case measure => have := HK1.out; omega
          case rel => exact ⟨(IntKind.u64.wrap ((Go.bits .xor .u64 x3_1 (IntKind.u64.wrap (rd l0 x4_1))) * 1099511628211)), (wrap64 (x4_1 + 1)), (by first | rfl | (simp; done) | (simp [*]; done)), (by first | rfl | (simp; done) | (simp [*]; done)), H', ⟨by have := HK1.out; omega⟩, by repeat (first | exact Drawn0.refl _ | apply Drawn0.step)⟩
        · rw [if_neg c3] at H
          exact absurd H (by simp)
      · rw [if_neg c2] at H
        have c2b0 : decide (x4_1 < (l0.length : Int)) = false := decide_eq_false c2
        clear c2
        obtain rfl := Option.some.inj H
        go_wp2
        go_ret
        exact ⟨by first | rfl | (simp; done) | (simp [*]; done), by repeat (first | exact Drawn0.refl _ | apply Drawn0.step)⟩

/-! ### headlandlaw01_answers: function 17 -/
def headlandlaw01_answers.f (k : Nat)  : Option (Bool) := if 2 ≤ 281474976710656 then ((some (List.replicate 2 0 : List Int)).bind fun y108 => ((word_Get.f k (([52, 18] : List Int)) 0 2).bind fun bt114 => ((word_Put.f k y108 0 4660 2).bind fun bt116 => (if bt116.1 = true then (if 0 < (y108.length : Int) then (if (rd bt116.2 0) = 52 then (if bt114.2 = true then (if bt114.1 = 4660 then ((word_Sum.f k ([] : List (List Int))).bind fun t119 => ((headlandref01_Sum.f k ([] : List Int)).bind fun t120 => (some (t119 == t120)))) else (some false)) else (some false)) else (some false)) else (none)) else (some false))))) else (none)
theorem headlandlaw01_answers.mono : ∀ k, LeO (headlandlaw01_answers.f k ) (headlandlaw01_answers.f (k + 1) ) := by
  intro  k
  unfold headlandlaw01_answers.f
  repeat' first
      | (with_reducible exact headlandref01_Sum.mono _ _)
      | (with_reducible exact word_Get.mono _ _ _ _)
      | (with_reducible exact word_Put.mono _ _ _ _ _)
      | (with_reducible exact word_Sum.mono _ _)
      | (with_reducible exact LeO.refl _)
      | (with_reducible exact LeO.none _)
      | (with_reducible refine LeO.ite ?_ ?_)
      | (with_reducible refine LeO.bind ?_ (fun _ => ?_))
      | exact headlandref01_Sum.mono _ _
      | exact word_Get.mono _ _ _ _
      | exact word_Put.mono _ _ _ _ _
      | exact word_Sum.mono _ _
      | exact LeO.none _
      | refine LeO.ite ?_ ?_
      | refine LeO.bind ?_ (fun _ => ?_)
set_option maxHeartbeats 8000000 in
set_option maxRecDepth 100000 in
theorem headlandlaw01_answers.calls (k : Nat)  (r : Bool) (w : World) (h : headlandlaw01_answers.f k  = some r) :
    Calls Try.prog 17 #[] w fun e w' => e = .returned (.bool r) ∧ Below w.heap.size w w' := by
  have HB := Aside0.mk (Below.refl w.heap.size w)
  have H : (if 2 ≤ 281474976710656 then ((some (List.replicate 2 0 : List Int)).bind fun y108 => ((word_Get.f k (([52, 18] : List Int)) 0 2).bind fun bt114 => ((word_Put.f k y108 0 4660 2).bind fun bt116 => (if bt116.1 = true then (if 0 < (y108.length : Int) then (if (rd bt116.2 0) = 52 then (if bt114.2 = true then (if bt114.1 = 4660 then ((word_Sum.f k ([] : List (List Int))).bind fun t119 => ((headlandref01_Sum.f k ([] : List Int)).bind fun t120 => (some (t119 == t120)))) else (some false)) else (some false)) else (some false)) else (none)) else (some false))))) else (none)) = some r := h
  clear h
  by_cases c1 : 2 ≤ 281474976710656
  · rw [if_pos c1] at H
    have c1b0 := eq_true c1
    have c1b1 : decide (2 ≤ 281474976710656) = true := decide_eq_true c1
    clear c1
    obtain ⟨y108, hy108⟩ : ∃ y_ : List Int, y_ = (List.replicate 2 0) := ⟨_, rfl⟩
    replace H : ((word_Get.f k (([52, 18] : List Int)) 0 2).bind fun bt114 => ((word_Put.f k y108 0 4660 2).bind fun bt116 => (if bt116.1 = true then (if 0 < (y108.length : Int) then (if (rd bt116.2 0) = 52 then (if bt114.2 = true then (if bt114.1 = 4660 then ((word_Sum.f k ([] : List (List Int))).bind fun t119 => ((headlandref01_Sum.f k ([] : List Int)).bind fun t120 => (some (t119 == t120)))) else (some false)) else (some false)) else (some false)) else (none)) else (some false)))) = some r := by first | (rw [hy108]; with_reducible exact H) | (have H2_ := (Option.bind_some _ _).symm.trans H; rw [hy108]; with_reducible exact H2_) | (have H2_ := (Option.bind_some _ _).symm.trans H; with_reducible exact H2_) | with_reducible exact H | (rw [hy108]; exact H) | exact H
    have Ny108 := Aside0.mk hy108
    clear hy108
    obtain ⟨y111, hy111⟩ : ∃ y_ : List Int, y_ = (([52, 18] : List Int)) := ⟨_, rfl⟩
    replace H : ((word_Get.f k y111 0 2).bind fun bt114 => ((word_Put.f k y108 0 4660 2).bind fun bt116 => (if bt116.1 = true then (if 0 < (y108.length : Int) then (if (rd bt116.2 0) = 52 then (if bt114.2 = true then (if bt114.1 = 4660 then ((word_Sum.f k ([] : List (List Int))).bind fun t119 => ((headlandref01_Sum.f k ([] : List Int)).bind fun t120 => (some (t119 == t120)))) else (some false)) else (some false)) else (some false)) else (none)) else (some false)))) = some r := by first | (rw [hy111]; with_reducible exact H) | (have H2_ := (Option.bind_some _ _).symm.trans H; rw [hy111]; with_reducible exact H2_) | (have H2_ := (Option.bind_some _ _).symm.trans H; with_reducible exact H2_) | with_reducible exact H | (rw [hy111]; exact H) | exact H
    have Ny111 := Aside0.mk hy111
    clear hy111
    replace H := Option.bind_eq_some_iff.mp H
    obtain ⟨⟨t114, t115⟩, A20, H⟩ := H
    replace H : ((word_Put.f k y108 0 4660 2).bind fun bt116 => (if bt116.1 = true then (if 0 < (y108.length : Int) then (if (rd bt116.2 0) = 52 then (if t115 = true then (if t114 = 4660 then ((word_Sum.f k ([] : List (List Int))).bind fun t119 => ((headlandref01_Sum.f k ([] : List Int)).bind fun t120 => (some (t119 == t120)))) else (some false)) else (some false)) else (some false)) else (none)) else (some false))) = some r := H
    have A2 := Aside0.mk A20
    clear A20
    replace H := Option.bind_eq_some_iff.mp H
    obtain ⟨⟨t116, t117⟩, A30, H⟩ := H
    replace H : (if t116 = true then (if 0 < (y108.length : Int) then (if (rd t117 0) = 52 then (if t115 = true then (if t114 = 4660 then ((word_Sum.f k ([] : List (List Int))).bind fun t119 => ((headlandref01_Sum.f k ([] : List Int)).bind fun t120 => (some (t119 == t120)))) else (some false)) else (some false)) else (some false)) else (none)) else (some false)) = some r := H
    have A3 := Aside0.mk A30
    clear A30
    by_cases c4 : t116 = true
    · subst c4
      have H1 : (if 0 < (y108.length : Int) then (if (rd t117 0) = 52 then (if t115 = true then (if t114 = 4660 then ((word_Sum.f k ([] : List (List Int))).bind fun t119 => ((headlandref01_Sum.f k ([] : List Int)).bind fun t120 => (some (t119 == t120)))) else (some false)) else (some false)) else (some false)) else (none)) = some r := by rw [if_pos rfl] at H; exact H
      clear H
      have H := H1
      clear H1
      by_cases c5 : 0 < (y108.length : Int)
      · rw [if_pos c5] at H
        have c5b0 : decide (0 < (y108.length : Int)) = true := decide_eq_true c5
        have c5b1 : decide (0 < y108.length) = true := decide_eq_true (by omega)
        clear c5
        by_cases c6 : (rd t117 0) = 52
        · rw [if_pos c6] at H
          have c6b0 : ((rd t117 0) == 52) = true := beq_iff_eq.mpr c6
          have c6b1 : ((rd t117 0) != 52) = false := bne_eq_false_iff_eq.mpr c6
          clear c6
          by_cases c7 : t115 = true
          · subst c7
            have H1 : (if t114 = 4660 then ((word_Sum.f k ([] : List (List Int))).bind fun t119 => ((headlandref01_Sum.f k ([] : List Int)).bind fun t120 => (some (t119 == t120)))) else (some false)) = some r := by rw [if_pos rfl] at H; exact H
            clear H
            have H := H1
            clear H1
            by_cases c8 : t114 = 4660
            · rw [if_pos c8] at H
              have c8b0 : (t114 == 4660) = true := beq_iff_eq.mpr c8
              have c8b1 : (t114 != 4660) = false := bne_eq_false_iff_eq.mpr c8
              clear c8
              replace H := Option.bind_eq_some_iff.mp H
              obtain ⟨t119, A90, H⟩ := H
              replace H : ((headlandref01_Sum.f k ([] : List Int)).bind fun t120 => (some (t119 == t120))) = some r := H
              have A9 := Aside0.mk A90
              clear A90
              replace H := Option.bind_eq_some_iff.mp H
              obtain ⟨t120, A100, H⟩ := H
              replace H : (some (t119 == t120)) = some r := H
              have A10 := Aside0.mk A100
              clear A100
              obtain rfl := Option.some.inj H
              go_enter Try.func17, Try.ntmps17
              go_wp2_with (first | ((with_reducible refine gate_dst (N := 4) rfl ?_); refine Kd.R_make (Kd.int .u8) _ 5 rfl (N := 4) rfl 37 _ _ rfl 2 rfl rfl Try.underlying37 (.int .u8 0) 1 info5 rfl (by decide) (by omega) 0 (ok := fun _ => True) (okp := fun _ => True) rfl (fun _ hk => hk) trivial (by omega) (by omega) (Below.refl _ _) (Nat.le_refl _) ?_; intro v109 w11 ho12 hb hg_ hnew_; clear hg_ hnew_; (first | rw [← Ny108.out] at ho12 | (simp only [Int.reduceToNat] at ho12; rw [← Ny108.out] at ho12)); have n0_ := Aside0.mk (Kd.R_lower ho12 (below_size (by repeat (first | (with_reducible first | exact HB.out | apply below_alloc | apply pw_below_drewN | apply below_drew1) | exact HB.out)))); have n1_ := Aside0.mk (below_step (by repeat (first | (with_reducible first | exact HB.out | apply below_alloc | apply pw_below_drewN | apply below_drew1) | exact HB.out)) hb); clear HB; have HO110 := n0_; have HB := n1_; clear n0_ n1_; clear hb ho12) | ((with_reducible refine gate_dst (N := 6) rfl ?_); refine Kd.R_lit (Kd.int .u8) _ 5 ?hg (N := 6) ?hd (xs := ([52, 18] : List Int)) (inner := [.int .u8 52, .int .u8 18]) (ok := fun _ => True) (okp := fun _ => True) ?hr ?hp (fun _ hk => hk) trivial (Below.refl _ _) (Nat.le_refl _) (by simp) ?_; (case hd => rfl); (case hg => rfl); (case hr => first | (go_simp; done) | (go_simp; rfl)); (case hp => exact (Reps.one (show Kd.M (Kd.int .u8) _ _ _ 52 [.int .u8 52] from rfl) (Reps.one (show Kd.M (Kd.int .u8) _ _ _ 18 [.int .u8 18] from rfl) (Reps.none _ _)))); intro v112 w13 ho14 hb hg_ hnew_; clear hg_ hnew_; (first | rw [← Ny111.out] at ho14 | (simp only [Int.reduceToNat] at ho14; rw [← Ny111.out] at ho14)); have n0_ := Aside0.mk (Kd.R_elder' (by (with_reducible repeat (first | apply Kd.R_alloc | apply Kd.R_drewN | apply Kd.R_drew)); exact HO110.out) (Kd.R_base ho14) hb); have n1_ := Aside0.mk (Kd.R_lower (Kd.R_new' ho14 (Kd.R_lt (by (with_reducible repeat (first | apply Kd.R_alloc | apply Kd.R_drewN | apply Kd.R_drew)); exact HO110.out))) (below_size (by repeat (first | (with_reducible first | exact HB.out | apply below_alloc | apply pw_below_drewN | apply below_drew1) | exact HB.out)))); have n2_ := Aside0.mk (below_step (by repeat (first | (with_reducible first | exact HB.out | apply below_alloc | apply pw_below_drewN | apply below_drew1) | exact HB.out)) hb); clear HO110; clear HB; have HO110 := n0_; have HO113 := n1_; have HB := n2_; clear n0_ n1_ n2_; clear hb ho14; obtain ⟨Ao15, co15, eo15⟩ := Kd.R_slice HO113.out; subst eo15) | ((with_reducible refine gate_callee (f := 18) rfl ?_); refine goesL_ (some 7) rfl rfl Try.func18 (by kernel_rfl) rfl #[.slice Ao15 y111.length co15, .int .i64 0, .int .i64 2] rfl (by (try simp only [List.map_toArray, List.map_cons, List.map_nil]); first | done | rfl | (simp only [List.length_drop, List.length_take]; rfl)) ?_; (with_reducible refine (word_Get.calls k _ _ y111 0 2 t114 true _ ?side1 ?side2 A2.out).mono ?_); (case side1 => repeat (first | exact (Kd.R_reads' HO113.out).2.2 | (with_reducible refine Kd.C_alloc ?_ _) | (with_reducible refine Kd.C_drewN ?_ _) | (with_reducible refine Kd.C_drew ?_))); (case side2 => exact (Kd.R_reads' HO113.out).2.1); rintro e w' ⟨rfl, ⟨nd, rfl⟩⟩; refine ⟨_, rfl, ?_⟩; obtain ⟨Ao16, co16, eo16⟩ := Kd.R_slice HO110.out; subst eo16) | ((with_reducible refine gate_callee (f := 20) rfl ?_); refine goesL_ (some 11) rfl rfl Try.func20 (by kernel_rfl) rfl #[.slice Ao16 y108.length co16, .int .i64 0, .int .u64 4660, .int .i64 2] rfl (by (try simp only [List.map_toArray, List.map_cons, List.map_nil]); first | done | rfl | (simp only [List.length_drop, List.length_take]; rfl)) ?_; (with_reducible refine (word_Put.calls k (fun k_ => some k_ = (.slice Ao16 y108.length co16 : Value).ownBlock) (.slice Ao16 y108.length co16) y108 0 4660 2 true t117 w _ ?side1 ?side2 A3.out).mono ?_); (case side1 => repeat (first | (with_reducible first | exact HB.out | apply below_alloc | apply pw_below_drewN | apply below_drew1) | exact HB.out)); (case side2 => exact Kd.R_tight rfl HO110.out); rintro e w17 ⟨rfl, hy0, hb, hkp⟩; refine ⟨_, rfl, ?_⟩; have n0_ := Aside0.mk (Kd.R_reok rfl hy0 (fun k_ e_ => HO110.out.1 k_ e_)); have n1_ := Aside0.mk (Kd.R_mono (ok' := fun k_ => some k_ ≠ (.slice Ao16 y108.length co16 : Value).ownBlock) (Kd.R_keptB (HO113.out) hkp (fun k_ hk_ hs_ => (hk_.2) hs_)) (fun k_ hk_ => hk_.1.2)); have n2_ := Aside0.mk (hb); clear HO110; clear HO113; clear HB; have HO110 := n0_; have HO113 := n1_; have HB := n2_; clear n0_ n1_ n2_; (try clear hb); (try clear hkp); (try clear hy0); have p118 : 0 ≤ (0 : Int) := (by omega); have q118 : 0 < (t117.length : Int) := (by have h_ : (0 : Int) < ((y108.length : Int) : Int) := of_decide_eq_true (by first | (with_reducible assumption) | assumption); have e_ := (Kd.R_reads' HO110.out).1; omega); have ql118 : ((0 : Int) < ((y108.length : Int) : Int)) = True := eq_true (of_decide_eq_true (by first | (with_reducible assumption) | assumption)); (try have qn118 : (0 < y108.length) = True := eq_true (by have h_ : (0 : Int) < ((y108.length : Int) : Int) := of_decide_eq_true (by first | (with_reducible assumption) | assumption); omega)); obtain ⟨ad118, e118, hx118_0⟩ := Kd.at_int (Kd.R_reads' HO110.out).2.2 0 p118 q118; cases e118; have qi118 : (0 < t117.length) = True := eq_true (by omega); (try rw [show ((0 : Int)).toNat = 0 from rfl] at hx118_0); (try rw [Addr.add_zero'] at hx118_0); replace p118 := eq_true p118; replace q118 := eq_true q118) | (go_at_call 23; (refine (word_Sum.calls k _ _ ([] : List (List Int)) t119 _ ?side1 ?side2 A9.out).mono ?_); (case side1 => exact Kd.C_nil _ _); (case side2 => exact Nat.le_refl _); rintro e w' ⟨rfl, ⟨nd, rfl⟩⟩) | (go_at_call 24; (refine (headlandref01_Sum.calls k _ _ ([] : List Int) t120 _ ?side1 ?side2 A10.out).mono ?_); (case side1 => exact Kd.C_nil _ _); (case side2 => exact Nat.le_refl _); rintro e w' ⟨rfl, ⟨nd, rfl⟩⟩))
              go_ret
              exact ⟨by first | rfl | (simp [errW_none, errW_some] <;> rfl) | (simp [*, errW_none, errW_some] <;> rfl), by repeat (first | (with_reducible first | exact HB.out | apply below_alloc | apply pw_below_drewN | apply below_drew1) | exact HB.out)⟩
            · rw [if_neg c8] at H
              have c8b0 : (t114 == 4660) = false := beq_eq_false_iff_ne.mpr c8
              have c8b1 : (t114 != 4660) = true := bne_iff_ne.mpr c8
              obtain rfl := Option.some.inj H
              go_enter Try.func17, Try.ntmps17
              go_wp2_with (first | ((with_reducible refine gate_dst (N := 4) rfl ?_); refine Kd.R_make (Kd.int .u8) _ 5 rfl (N := 4) rfl 37 _ _ rfl 2 rfl rfl Try.underlying37 (.int .u8 0) 1 info5 rfl (by decide) (by omega) 0 (ok := fun _ => True) (okp := fun _ => True) rfl (fun _ hk => hk) trivial (by omega) (by omega) (Below.refl _ _) (Nat.le_refl _) ?_; intro v109 w18 ho19 hb hg_ hnew_; clear hg_ hnew_; (first | rw [← Ny108.out] at ho19 | (simp only [Int.reduceToNat] at ho19; rw [← Ny108.out] at ho19)); have n0_ := Aside0.mk (Kd.R_lower ho19 (below_size (by repeat (first | (with_reducible first | exact HB.out | apply below_alloc | apply pw_below_drewN | apply below_drew1) | exact HB.out)))); have n1_ := Aside0.mk (below_step (by repeat (first | (with_reducible first | exact HB.out | apply below_alloc | apply pw_below_drewN | apply below_drew1) | exact HB.out)) hb); clear HB; have HO110 := n0_; have HB := n1_; clear n0_ n1_; clear hb ho19) | ((with_reducible refine gate_dst (N := 6) rfl ?_); refine Kd.R_lit (Kd.int .u8) _ 5 ?hg (N := 6) ?hd (xs := ([52, 18] : List Int)) (inner := [.int .u8 52, .int .u8 18]) (ok := fun _ => True) (okp := fun _ => True) ?hr ?hp (fun _ hk => hk) trivial (Below.refl _ _) (Nat.le_refl _) (by simp) ?_; (case hd => rfl); (case hg => rfl); (case hr => first | (go_simp; done) | (go_simp; rfl)); (case hp => exact (Reps.one (show Kd.M (Kd.int .u8) _ _ _ 52 [.int .u8 52] from rfl) (Reps.one (show Kd.M (Kd.int .u8) _ _ _ 18 [.int .u8 18] from rfl) (Reps.none _ _)))); intro v112 w20 ho21 hb hg_ hnew_; clear hg_ hnew_; (first | rw [← Ny111.out] at ho21 | (simp only [Int.reduceToNat] at ho21; rw [← Ny111.out] at ho21)); have n0_ := Aside0.mk (Kd.R_elder' (by (with_reducible repeat (first | apply Kd.R_alloc | apply Kd.R_drewN | apply Kd.R_drew)); exact HO110.out) (Kd.R_base ho21) hb); have n1_ := Aside0.mk (Kd.R_lower (Kd.R_new' ho21 (Kd.R_lt (by (with_reducible repeat (first | apply Kd.R_alloc | apply Kd.R_drewN | apply Kd.R_drew)); exact HO110.out))) (below_size (by repeat (first | (with_reducible first | exact HB.out | apply below_alloc | apply pw_below_drewN | apply below_drew1) | exact HB.out)))); have n2_ := Aside0.mk (below_step (by repeat (first | (with_reducible first | exact HB.out | apply below_alloc | apply pw_below_drewN | apply below_drew1) | exact HB.out)) hb); clear HO110; clear HB; have HO110 := n0_; have HO113 := n1_; have HB := n2_; clear n0_ n1_ n2_; clear hb ho21; obtain ⟨Ao22, co22, eo22⟩ := Kd.R_slice HO113.out; subst eo22) | ((with_reducible refine gate_callee (f := 18) rfl ?_); refine goesL_ (some 7) rfl rfl Try.func18 (by kernel_rfl) rfl #[.slice Ao22 y111.length co22, .int .i64 0, .int .i64 2] rfl (by (try simp only [List.map_toArray, List.map_cons, List.map_nil]); first | done | rfl | (simp only [List.length_drop, List.length_take]; rfl)) ?_; (with_reducible refine (word_Get.calls k _ _ y111 0 2 t114 true _ ?side1 ?side2 A2.out).mono ?_); (case side1 => repeat (first | exact (Kd.R_reads' HO113.out).2.2 | (with_reducible refine Kd.C_alloc ?_ _) | (with_reducible refine Kd.C_drewN ?_ _) | (with_reducible refine Kd.C_drew ?_))); (case side2 => exact (Kd.R_reads' HO113.out).2.1); rintro e w' ⟨rfl, ⟨nd, rfl⟩⟩; refine ⟨_, rfl, ?_⟩; obtain ⟨Ao23, co23, eo23⟩ := Kd.R_slice HO110.out; subst eo23) | ((with_reducible refine gate_callee (f := 20) rfl ?_); refine goesL_ (some 11) rfl rfl Try.func20 (by kernel_rfl) rfl #[.slice Ao23 y108.length co23, .int .i64 0, .int .u64 4660, .int .i64 2] rfl (by (try simp only [List.map_toArray, List.map_cons, List.map_nil]); first | done | rfl | (simp only [List.length_drop, List.length_take]; rfl)) ?_; (with_reducible refine (word_Put.calls k (fun k_ => some k_ = (.slice Ao23 y108.length co23 : Value).ownBlock) (.slice Ao23 y108.length co23) y108 0 4660 2 true t117 w _ ?side1 ?side2 A3.out).mono ?_); (case side1 => repeat (first | (with_reducible first | exact HB.out | apply below_alloc | apply pw_below_drewN | apply below_drew1) | exact HB.out)); (case side2 => exact Kd.R_tight rfl HO110.out); rintro e w24 ⟨rfl, hy0, hb, hkp⟩; refine ⟨_, rfl, ?_⟩; have n0_ := Aside0.mk (Kd.R_reok rfl hy0 (fun k_ e_ => HO110.out.1 k_ e_)); have n1_ := Aside0.mk (Kd.R_mono (ok' := fun k_ => some k_ ≠ (.slice Ao23 y108.length co23 : Value).ownBlock) (Kd.R_keptB (HO113.out) hkp (fun k_ hk_ hs_ => (hk_.2) hs_)) (fun k_ hk_ => hk_.1.2)); have n2_ := Aside0.mk (hb); clear HO110; clear HO113; clear HB; have HO110 := n0_; have HO113 := n1_; have HB := n2_; clear n0_ n1_ n2_; (try clear hb); (try clear hkp); (try clear hy0); have p118 : 0 ≤ (0 : Int) := (by omega); have q118 : 0 < (t117.length : Int) := (by have h_ : (0 : Int) < ((y108.length : Int) : Int) := of_decide_eq_true (by first | (with_reducible assumption) | assumption); have e_ := (Kd.R_reads' HO110.out).1; omega); have ql118 : ((0 : Int) < ((y108.length : Int) : Int)) = True := eq_true (of_decide_eq_true (by first | (with_reducible assumption) | assumption)); (try have qn118 : (0 < y108.length) = True := eq_true (by have h_ : (0 : Int) < ((y108.length : Int) : Int) := of_decide_eq_true (by first | (with_reducible assumption) | assumption); omega)); obtain ⟨ad118, e118, hx118_0⟩ := Kd.at_int (Kd.R_reads' HO110.out).2.2 0 p118 q118; cases e118; have qi118 : (0 < t117.length) = True := eq_true (by omega); (try rw [show ((0 : Int)).toNat = 0 from rfl] at hx118_0); (try rw [Addr.add_zero'] at hx118_0); replace p118 := eq_true p118; replace q118 := eq_true q118))
              go_ret
              exact ⟨by first | rfl | (simp [errW_none, errW_some] <;> rfl) | (simp [*, errW_none, errW_some] <;> rfl), by repeat (first | (with_reducible first | exact HB.out | apply below_alloc | apply pw_below_drewN | apply below_drew1) | exact HB.out)⟩
          · replace c7 := Bool.eq_false_iff.mpr c7
            subst c7
            have H1 : (some false) = some r := by rw [if_neg (show ¬ (false = true) by decide)] at H; exact H
            clear H
            have H := H1
            clear H1
            obtain rfl := Option.some.inj H
            go_enter Try.func17, Try.ntmps17
            go_wp2_with (first | ((with_reducible refine gate_dst (N := 4) rfl ?_); refine Kd.R_make (Kd.int .u8) _ 5 rfl (N := 4) rfl 37 _ _ rfl 2 rfl rfl Try.underlying37 (.int .u8 0) 1 info5 rfl (by decide) (by omega) 0 (ok := fun _ => True) (okp := fun _ => True) rfl (fun _ hk => hk) trivial (by omega) (by omega) (Below.refl _ _) (Nat.le_refl _) ?_; intro v109 w25 ho26 hb hg_ hnew_; clear hg_ hnew_; (first | rw [← Ny108.out] at ho26 | (simp only [Int.reduceToNat] at ho26; rw [← Ny108.out] at ho26)); have n0_ := Aside0.mk (Kd.R_lower ho26 (below_size (by repeat (first | (with_reducible first | exact HB.out | apply below_alloc | apply pw_below_drewN | apply below_drew1) | exact HB.out)))); have n1_ := Aside0.mk (below_step (by repeat (first | (with_reducible first | exact HB.out | apply below_alloc | apply pw_below_drewN | apply below_drew1) | exact HB.out)) hb); clear HB; have HO110 := n0_; have HB := n1_; clear n0_ n1_; clear hb ho26) | ((with_reducible refine gate_dst (N := 6) rfl ?_); refine Kd.R_lit (Kd.int .u8) _ 5 ?hg (N := 6) ?hd (xs := ([52, 18] : List Int)) (inner := [.int .u8 52, .int .u8 18]) (ok := fun _ => True) (okp := fun _ => True) ?hr ?hp (fun _ hk => hk) trivial (Below.refl _ _) (Nat.le_refl _) (by simp) ?_; (case hd => rfl); (case hg => rfl); (case hr => first | (go_simp; done) | (go_simp; rfl)); (case hp => exact (Reps.one (show Kd.M (Kd.int .u8) _ _ _ 52 [.int .u8 52] from rfl) (Reps.one (show Kd.M (Kd.int .u8) _ _ _ 18 [.int .u8 18] from rfl) (Reps.none _ _)))); intro v112 w27 ho28 hb hg_ hnew_; clear hg_ hnew_; (first | rw [← Ny111.out] at ho28 | (simp only [Int.reduceToNat] at ho28; rw [← Ny111.out] at ho28)); have n0_ := Aside0.mk (Kd.R_elder' (by (with_reducible repeat (first | apply Kd.R_alloc | apply Kd.R_drewN | apply Kd.R_drew)); exact HO110.out) (Kd.R_base ho28) hb); have n1_ := Aside0.mk (Kd.R_lower (Kd.R_new' ho28 (Kd.R_lt (by (with_reducible repeat (first | apply Kd.R_alloc | apply Kd.R_drewN | apply Kd.R_drew)); exact HO110.out))) (below_size (by repeat (first | (with_reducible first | exact HB.out | apply below_alloc | apply pw_below_drewN | apply below_drew1) | exact HB.out)))); have n2_ := Aside0.mk (below_step (by repeat (first | (with_reducible first | exact HB.out | apply below_alloc | apply pw_below_drewN | apply below_drew1) | exact HB.out)) hb); clear HO110; clear HB; have HO110 := n0_; have HO113 := n1_; have HB := n2_; clear n0_ n1_ n2_; clear hb ho28; obtain ⟨Ao29, co29, eo29⟩ := Kd.R_slice HO113.out; subst eo29) | ((with_reducible refine gate_callee (f := 18) rfl ?_); refine goesL_ (some 7) rfl rfl Try.func18 (by kernel_rfl) rfl #[.slice Ao29 y111.length co29, .int .i64 0, .int .i64 2] rfl (by (try simp only [List.map_toArray, List.map_cons, List.map_nil]); first | done | rfl | (simp only [List.length_drop, List.length_take]; rfl)) ?_; (with_reducible refine (word_Get.calls k _ _ y111 0 2 t114 false _ ?side1 ?side2 A2.out).mono ?_); (case side1 => repeat (first | exact (Kd.R_reads' HO113.out).2.2 | (with_reducible refine Kd.C_alloc ?_ _) | (with_reducible refine Kd.C_drewN ?_ _) | (with_reducible refine Kd.C_drew ?_))); (case side2 => exact (Kd.R_reads' HO113.out).2.1); rintro e w' ⟨rfl, ⟨nd, rfl⟩⟩; refine ⟨_, rfl, ?_⟩; obtain ⟨Ao30, co30, eo30⟩ := Kd.R_slice HO110.out; subst eo30) | ((with_reducible refine gate_callee (f := 20) rfl ?_); refine goesL_ (some 11) rfl rfl Try.func20 (by kernel_rfl) rfl #[.slice Ao30 y108.length co30, .int .i64 0, .int .u64 4660, .int .i64 2] rfl (by (try simp only [List.map_toArray, List.map_cons, List.map_nil]); first | done | rfl | (simp only [List.length_drop, List.length_take]; rfl)) ?_; (with_reducible refine (word_Put.calls k (fun k_ => some k_ = (.slice Ao30 y108.length co30 : Value).ownBlock) (.slice Ao30 y108.length co30) y108 0 4660 2 true t117 w _ ?side1 ?side2 A3.out).mono ?_); (case side1 => repeat (first | (with_reducible first | exact HB.out | apply below_alloc | apply pw_below_drewN | apply below_drew1) | exact HB.out)); (case side2 => exact Kd.R_tight rfl HO110.out); rintro e w31 ⟨rfl, hy0, hb, hkp⟩; refine ⟨_, rfl, ?_⟩; have n0_ := Aside0.mk (Kd.R_reok rfl hy0 (fun k_ e_ => HO110.out.1 k_ e_)); have n1_ := Aside0.mk (Kd.R_mono (ok' := fun k_ => some k_ ≠ (.slice Ao30 y108.length co30 : Value).ownBlock) (Kd.R_keptB (HO113.out) hkp (fun k_ hk_ hs_ => (hk_.2) hs_)) (fun k_ hk_ => hk_.1.2)); have n2_ := Aside0.mk (hb); clear HO110; clear HO113; clear HB; have HO110 := n0_; have HO113 := n1_; have HB := n2_; clear n0_ n1_ n2_; (try clear hb); (try clear hkp); (try clear hy0); have p118 : 0 ≤ (0 : Int) := (by omega); have q118 : 0 < (t117.length : Int) := (by have h_ : (0 : Int) < ((y108.length : Int) : Int) := of_decide_eq_true (by first | (with_reducible assumption) | assumption); have e_ := (Kd.R_reads' HO110.out).1; omega); have ql118 : ((0 : Int) < ((y108.length : Int) : Int)) = True := eq_true (of_decide_eq_true (by first | (with_reducible assumption) | assumption)); (try have qn118 : (0 < y108.length) = True := eq_true (by have h_ : (0 : Int) < ((y108.length : Int) : Int) := of_decide_eq_true (by first | (with_reducible assumption) | assumption); omega)); obtain ⟨ad118, e118, hx118_0⟩ := Kd.at_int (Kd.R_reads' HO110.out).2.2 0 p118 q118; cases e118; have qi118 : (0 < t117.length) = True := eq_true (by omega); (try rw [show ((0 : Int)).toNat = 0 from rfl] at hx118_0); (try rw [Addr.add_zero'] at hx118_0); replace p118 := eq_true p118; replace q118 := eq_true q118))
            go_ret
            exact ⟨by first | rfl | (simp [errW_none, errW_some] <;> rfl) | (simp [*, errW_none, errW_some] <;> rfl), by repeat (first | (with_reducible first | exact HB.out | apply below_alloc | apply pw_below_drewN | apply below_drew1) | exact HB.out)⟩
        · rw [if_neg c6] at H
          have c6b0 : ((rd t117 0) == 52) = false := beq_eq_false_iff_ne.mpr c6
          have c6b1 : ((rd t117 0) != 52) = true := bne_iff_ne.mpr c6
          obtain rfl := Option.some.inj H
          go_enter Try.func17, Try.ntmps17
          go_wp2_with (first | ((with_reducible refine gate_dst (N := 4) rfl ?_); refine Kd.R_make (Kd.int .u8) _ 5 rfl (N := 4) rfl 37 _ _ rfl 2 rfl rfl Try.underlying37 (.int .u8 0) 1 info5 rfl (by decide) (by omega) 0 (ok := fun _ => True) (okp := fun _ => True) rfl (fun _ hk => hk) trivial (by omega) (by omega) (Below.refl _ _) (Nat.le_refl _) ?_; intro v109 w32 ho33 hb hg_ hnew_; clear hg_ hnew_; (first | rw [← Ny108.out] at ho33 | (simp only [Int.reduceToNat] at ho33; rw [← Ny108.out] at ho33)); have n0_ := Aside0.mk (Kd.R_lower ho33 (below_size (by repeat (first | (with_reducible first | exact HB.out | apply below_alloc | apply pw_below_drewN | apply below_drew1) | exact HB.out)))); have n1_ := Aside0.mk (below_step (by repeat (first | (with_reducible first | exact HB.out | apply below_alloc | apply pw_below_drewN | apply below_drew1) | exact HB.out)) hb); clear HB; have HO110 := n0_; have HB := n1_; clear n0_ n1_; clear hb ho33) | ((with_reducible refine gate_dst (N := 6) rfl ?_); refine Kd.R_lit (Kd.int .u8) _ 5 ?hg (N := 6) ?hd (xs := ([52, 18] : List Int)) (inner := [.int .u8 52, .int .u8 18]) (ok := fun _ => True) (okp := fun _ => True) ?hr ?hp (fun _ hk => hk) trivial (Below.refl _ _) (Nat.le_refl _) (by simp) ?_; (case hd => rfl); (case hg => rfl); (case hr => first | (go_simp; done) | (go_simp; rfl)); (case hp => exact (Reps.one (show Kd.M (Kd.int .u8) _ _ _ 52 [.int .u8 52] from rfl) (Reps.one (show Kd.M (Kd.int .u8) _ _ _ 18 [.int .u8 18] from rfl) (Reps.none _ _)))); intro v112 w34 ho35 hb hg_ hnew_; clear hg_ hnew_; (first | rw [← Ny111.out] at ho35 | (simp only [Int.reduceToNat] at ho35; rw [← Ny111.out] at ho35)); have n0_ := Aside0.mk (Kd.R_elder' (by (with_reducible repeat (first | apply Kd.R_alloc | apply Kd.R_drewN | apply Kd.R_drew)); exact HO110.out) (Kd.R_base ho35) hb); have n1_ := Aside0.mk (Kd.R_lower (Kd.R_new' ho35 (Kd.R_lt (by (with_reducible repeat (first | apply Kd.R_alloc | apply Kd.R_drewN | apply Kd.R_drew)); exact HO110.out))) (below_size (by repeat (first | (with_reducible first | exact HB.out | apply below_alloc | apply pw_below_drewN | apply below_drew1) | exact HB.out)))); have n2_ := Aside0.mk (below_step (by repeat (first | (with_reducible first | exact HB.out | apply below_alloc | apply pw_below_drewN | apply below_drew1) | exact HB.out)) hb); clear HO110; clear HB; have HO110 := n0_; have HO113 := n1_; have HB := n2_; clear n0_ n1_ n2_; clear hb ho35; obtain ⟨Ao36, co36, eo36⟩ := Kd.R_slice HO113.out; subst eo36) | ((with_reducible refine gate_callee (f := 18) rfl ?_); refine goesL_ (some 7) rfl rfl Try.func18 (by kernel_rfl) rfl #[.slice Ao36 y111.length co36, .int .i64 0, .int .i64 2] rfl (by (try simp only [List.map_toArray, List.map_cons, List.map_nil]); first | done | rfl | (simp only [List.length_drop, List.length_take]; rfl)) ?_; (with_reducible refine (word_Get.calls k _ _ y111 0 2 t114 t115 _ ?side1 ?side2 A2.out).mono ?_); (case side1 => repeat (first | exact (Kd.R_reads' HO113.out).2.2 | (with_reducible refine Kd.C_alloc ?_ _) | (with_reducible refine Kd.C_drewN ?_ _) | (with_reducible refine Kd.C_drew ?_))); (case side2 => exact (Kd.R_reads' HO113.out).2.1); rintro e w' ⟨rfl, ⟨nd, rfl⟩⟩; refine ⟨_, rfl, ?_⟩; obtain ⟨Ao37, co37, eo37⟩ := Kd.R_slice HO110.out; subst eo37) | ((with_reducible refine gate_callee (f := 20) rfl ?_); refine goesL_ (some 11) rfl rfl Try.func20 (by kernel_rfl) rfl #[.slice Ao37 y108.length co37, .int .i64 0, .int .u64 4660, .int .i64 2] rfl (by (try simp only [List.map_toArray, List.map_cons, List.map_nil]); first | done | rfl | (simp only [List.length_drop, List.length_take]; rfl)) ?_; (with_reducible refine (word_Put.calls k (fun k_ => some k_ = (.slice Ao37 y108.length co37 : Value).ownBlock) (.slice Ao37 y108.length co37) y108 0 4660 2 true t117 w _ ?side1 ?side2 A3.out).mono ?_); (case side1 => repeat (first | (with_reducible first | exact HB.out | apply below_alloc | apply pw_below_drewN | apply below_drew1) | exact HB.out)); (case side2 => exact Kd.R_tight rfl HO110.out); rintro e w38 ⟨rfl, hy0, hb, hkp⟩; refine ⟨_, rfl, ?_⟩; have n0_ := Aside0.mk (Kd.R_reok rfl hy0 (fun k_ e_ => HO110.out.1 k_ e_)); have n1_ := Aside0.mk (Kd.R_mono (ok' := fun k_ => some k_ ≠ (.slice Ao37 y108.length co37 : Value).ownBlock) (Kd.R_keptB (HO113.out) hkp (fun k_ hk_ hs_ => (hk_.2) hs_)) (fun k_ hk_ => hk_.1.2)); have n2_ := Aside0.mk (hb); clear HO110; clear HO113; clear HB; have HO110 := n0_; have HO113 := n1_; have HB := n2_; clear n0_ n1_ n2_; (try clear hb); (try clear hkp); (try clear hy0); have p118 : 0 ≤ (0 : Int) := (by omega); have q118 : 0 < (t117.length : Int) := (by have h_ : (0 : Int) < ((y108.length : Int) : Int) := of_decide_eq_true (by first | (with_reducible assumption) | assumption); have e_ := (Kd.R_reads' HO110.out).1; omega); have ql118 : ((0 : Int) < ((y108.length : Int) : Int)) = True := eq_true (of_decide_eq_true (by first | (with_reducible assumption) | assumption)); (try have qn118 : (0 < y108.length) = True := eq_true (by have h_ : (0 : Int) < ((y108.length : Int) : Int) := of_decide_eq_true (by first | (with_reducible assumption) | assumption); omega)); obtain ⟨ad118, e118, hx118_0⟩ := Kd.at_int (Kd.R_reads' HO110.out).2.2 0 p118 q118; cases e118; have qi118 : (0 < t117.length) = True := eq_true (by omega); (try rw [show ((0 : Int)).toNat = 0 from rfl] at hx118_0); (try rw [Addr.add_zero'] at hx118_0); replace p118 := eq_true p118; replace q118 := eq_true q118))
          go_ret
          exact ⟨by first | rfl | (simp [errW_none, errW_some] <;> rfl) | (simp [*, errW_none, errW_some] <;> rfl), by repeat (first | (with_reducible first | exact HB.out | apply below_alloc | apply pw_below_drewN | apply below_drew1) | exact HB.out)⟩
      · rw [if_neg c5] at H
        exact absurd H (by simp)
    · replace c4 := Bool.eq_false_iff.mpr c4
      subst c4
      have H1 : (some false) = some r := by rw [if_neg (show ¬ (false = true) by decide)] at H; exact H
      clear H
      have H := H1
      clear H1
      obtain rfl := Option.some.inj H
      go_enter Try.func17, Try.ntmps17
      go_wp2_with (first | ((with_reducible refine gate_dst (N := 4) rfl ?_); refine Kd.R_make (Kd.int .u8) _ 5 rfl (N := 4) rfl 37 _ _ rfl 2 rfl rfl Try.underlying37 (.int .u8 0) 1 info5 rfl (by decide) (by omega) 0 (ok := fun _ => True) (okp := fun _ => True) rfl (fun _ hk => hk) trivial (by omega) (by omega) (Below.refl _ _) (Nat.le_refl _) ?_; intro v109 w39 ho40 hb hg_ hnew_; clear hg_ hnew_; (first | rw [← Ny108.out] at ho40 | (simp only [Int.reduceToNat] at ho40; rw [← Ny108.out] at ho40)); have n0_ := Aside0.mk (Kd.R_lower ho40 (below_size (by repeat (first | (with_reducible first | exact HB.out | apply below_alloc | apply pw_below_drewN | apply below_drew1) | exact HB.out)))); have n1_ := Aside0.mk (below_step (by repeat (first | (with_reducible first | exact HB.out | apply below_alloc | apply pw_below_drewN | apply below_drew1) | exact HB.out)) hb); clear HB; have HO110 := n0_; have HB := n1_; clear n0_ n1_; clear hb ho40) | ((with_reducible refine gate_dst (N := 6) rfl ?_); refine Kd.R_lit (Kd.int .u8) _ 5 ?hg (N := 6) ?hd (xs := ([52, 18] : List Int)) (inner := [.int .u8 52, .int .u8 18]) (ok := fun _ => True) (okp := fun _ => True) ?hr ?hp (fun _ hk => hk) trivial (Below.refl _ _) (Nat.le_refl _) (by simp) ?_; (case hd => rfl); (case hg => rfl); (case hr => first | (go_simp; done) | (go_simp; rfl)); (case hp => exact (Reps.one (show Kd.M (Kd.int .u8) _ _ _ 52 [.int .u8 52] from rfl) (Reps.one (show Kd.M (Kd.int .u8) _ _ _ 18 [.int .u8 18] from rfl) (Reps.none _ _)))); intro v112 w41 ho42 hb hg_ hnew_; clear hg_ hnew_; (first | rw [← Ny111.out] at ho42 | (simp only [Int.reduceToNat] at ho42; rw [← Ny111.out] at ho42)); have n0_ := Aside0.mk (Kd.R_elder' (by (with_reducible repeat (first | apply Kd.R_alloc | apply Kd.R_drewN | apply Kd.R_drew)); exact HO110.out) (Kd.R_base ho42) hb); have n1_ := Aside0.mk (Kd.R_lower (Kd.R_new' ho42 (Kd.R_lt (by (with_reducible repeat (first | apply Kd.R_alloc | apply Kd.R_drewN | apply Kd.R_drew)); exact HO110.out))) (below_size (by repeat (first | (with_reducible first | exact HB.out | apply below_alloc | apply pw_below_drewN | apply below_drew1) | exact HB.out)))); have n2_ := Aside0.mk (below_step (by repeat (first | (with_reducible first | exact HB.out | apply below_alloc | apply pw_below_drewN | apply below_drew1) | exact HB.out)) hb); clear HO110; clear HB; have HO110 := n0_; have HO113 := n1_; have HB := n2_; clear n0_ n1_ n2_; clear hb ho42; obtain ⟨Ao43, co43, eo43⟩ := Kd.R_slice HO113.out; subst eo43) | ((with_reducible refine gate_callee (f := 18) rfl ?_); refine goesL_ (some 7) rfl rfl Try.func18 (by kernel_rfl) rfl #[.slice Ao43 y111.length co43, .int .i64 0, .int .i64 2] rfl (by (try simp only [List.map_toArray, List.map_cons, List.map_nil]); first | done | rfl | (simp only [List.length_drop, List.length_take]; rfl)) ?_; (with_reducible refine (word_Get.calls k _ _ y111 0 2 t114 t115 _ ?side1 ?side2 A2.out).mono ?_); (case side1 => repeat (first | exact (Kd.R_reads' HO113.out).2.2 | (with_reducible refine Kd.C_alloc ?_ _) | (with_reducible refine Kd.C_drewN ?_ _) | (with_reducible refine Kd.C_drew ?_))); (case side2 => exact (Kd.R_reads' HO113.out).2.1); rintro e w' ⟨rfl, ⟨nd, rfl⟩⟩; refine ⟨_, rfl, ?_⟩; obtain ⟨Ao44, co44, eo44⟩ := Kd.R_slice HO110.out; subst eo44) | ((with_reducible refine gate_callee (f := 20) rfl ?_); refine goesL_ (some 11) rfl rfl Try.func20 (by kernel_rfl) rfl #[.slice Ao44 y108.length co44, .int .i64 0, .int .u64 4660, .int .i64 2] rfl (by (try simp only [List.map_toArray, List.map_cons, List.map_nil]); first | done | rfl | (simp only [List.length_drop, List.length_take]; rfl)) ?_; (with_reducible refine (word_Put.calls k (fun k_ => some k_ = (.slice Ao44 y108.length co44 : Value).ownBlock) (.slice Ao44 y108.length co44) y108 0 4660 2 false t117 w _ ?side1 ?side2 A3.out).mono ?_); (case side1 => repeat (first | (with_reducible first | exact HB.out | apply below_alloc | apply pw_below_drewN | apply below_drew1) | exact HB.out)); (case side2 => exact Kd.R_tight rfl HO110.out); rintro e w45 ⟨rfl, hy0, hb, hkp⟩; refine ⟨_, rfl, ?_⟩; have n0_ := Aside0.mk (Kd.R_reok rfl hy0 (fun k_ e_ => HO110.out.1 k_ e_)); have n1_ := Aside0.mk (Kd.R_mono (ok' := fun k_ => some k_ ≠ (.slice Ao44 y108.length co44 : Value).ownBlock) (Kd.R_keptB (HO113.out) hkp (fun k_ hk_ hs_ => (hk_.2) hs_)) (fun k_ hk_ => hk_.1.2)); have n2_ := Aside0.mk (hb); clear HO110; clear HO113; clear HB; have HO110 := n0_; have HO113 := n1_; have HB := n2_; clear n0_ n1_ n2_; (try clear hb); (try clear hkp); (try clear hy0)))
      go_ret
      exact ⟨by first | rfl | (simp [errW_none, errW_some] <;> rfl) | (simp [*, errW_none, errW_some] <;> rfl), by repeat (first | (with_reducible first | exact HB.out | apply below_alloc | apply pw_below_drewN | apply below_drew1) | exact HB.out)⟩
  · rw [if_neg c1] at H
    exact absurd H (by simp)

end Go.Proofs.Ytkohbmbacdgjaaa.PWordWraps
