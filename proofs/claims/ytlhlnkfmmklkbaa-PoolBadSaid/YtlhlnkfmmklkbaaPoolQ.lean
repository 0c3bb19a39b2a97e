/- Frames and what they are used for: PoolOrder. -/
import Derived.Test.YtlhlnkfmmklkbaaPoolP
namespace Go.Proofs.Ytlhlnkfmmklkbaa.Pool
open Go.RowKit Go.Proofs.Ytlhlnkfmmklkbaa.Hp Go.Proofs.Ytlhlnkfmmklkbaa.Runs
set_option linter.unusedVariables false
set_option linter.unusedSimpArgs false
theorem alloc_some {S : PS} {u o : Int} {mov : Bool} {f : Nat} (ha : ArgOk u o) (h : S.pick o mov = some f) : S.allocE u o mov = 0 ∧ S.allocF u o mov = f ∧ S.alloc u o mov = { S with U := allocU S.U f (2 ^ o.toNat) u } := by
  have h1 : S.allocE u o mov = 0 := by unfold PS.allocE; rw [if_pos ha, h]
  have h2 : S.allocF u o mov = f := by unfold PS.allocF; rw [if_pos ha, h]; rfl
  exact ⟨h1, h2, by unfold PS.alloc; rw [if_pos h1, h2]⟩
theorem alloc_full {S : PS} {u o : Int} {mov : Bool} (ha : ArgOk u o) (h : S.pick o mov = none) : S.allocE u o mov = 4 ∧ S.allocF u o mov = 0 ∧ S.alloc u o mov = S := by
  have h1 : S.allocE u o mov = 4 := by unfold PS.allocE; rw [if_pos ha, h]
  have h2 : S.allocF u o mov = 0 := by unfold PS.allocF; rw [if_pos ha, h]; rfl
  exact ⟨h1, h2, by unfold PS.alloc; rw [h1, if_neg (by decide)]⟩
theorem online_ok {S : PS} {s z : Int} (h1 : 0 ≤ s ∧ s < 32) (h2 : z = 2 ∨ z = 3) (h3 : S.Z s.toNat = 0) (bad : List Int) : S.onE s z = 0 ∧ S.online s z bad = ⟨onU S.U (s.toNat * 32) bad 32, upd S.Z s.toNat z, updB S.I s.toNat false⟩ := by
  have E : S.onE s z = 0 := by unfold PS.onE; rw [if_pos ⟨h1, h2⟩, if_pos h3]
  exact ⟨E, by unfold PS.online; rw [if_pos E]⟩
theorem rd_nil (w : World) : Rd w .i64 none [] := ⟨by simp, fun h => absurd h (by simp)⟩
theorem l_online0 {w0 w : World} {p b bi : Nat} {S : PS} (s z : Int) (h : PL w0 w p b bi S) :
    Calls Try.prog 24 #[.pointer (some ⟨p, 0, none⟩), .int .i64 s, .int .i64 z, .slice none 0 0] w (Ans w0 p b bi (.int .i64 (S.onE s z)) (S.online s z [])) :=
  l_online s z none 0 [] h (rd_nil w) (fun hh => absurd hh (by simp))
/-- two sections on line, some frames of them used -/
structure Two (S : PS) (lo hi : Nat) : Prop where
  u : ∀ f, S.U f = if lo ≤ f ∧ f < hi then 3 else if f < 64 then 1 else 0
  z : ∀ s, S.Z s = if s = 0 then 3 else if s = 1 then 2 else 0
  i : ∀ s, S.I s = false
theorem onU_nil (U : Nat → Int) (a k : Nat) (h : ∀ f, U f ≠ 6) (f : Nat) : onU U a [] k f = if a ≤ f ∧ f < a + k then 1 else U f := by
  unfold onU
  by_cases c : a ≤ f ∧ f < a + k
  · rw [if_pos c, if_pos c, if_neg (by simp [h f])]
  · rw [if_neg c, if_neg c]
theorem two_start : Two ((PS.new.online 1 2 []).online 0 3 []) 0 0 ∧ Two ((PS.new.online 1 2 []).online 0 3 []) 32 32 ∧ PS.new.onE 1 2 = 0 ∧ (PS.new.online 1 2 []).onE 0 3 = 0 := by
  obtain ⟨e1, e2⟩ := online_ok (S := PS.new) (s := 1) (z := 2) (by decide) (.inl rfl) rfl []
  have hz : (PS.new.online 1 2 []).Z (Int.toNat 0) = 0 := by rw [e2]; rfl
  obtain ⟨e3, e4⟩ := online_ok (S := PS.new.online 1 2 []) (s := 0) (z := 3) (by decide) (.inr rfl) hz []
  have key : ∀ lo, Two ((PS.new.online 1 2 []).online 0 3 []) lo lo := by
    intro lo
    rw [e4, e2]
    refine ⟨fun f => ?_, fun s => ?_, fun s => ?_⟩
    · rw [if_neg (by omega)]
      show onU (onU (fun _ => 0) (1 * 32) [] 32) (0 * 32) [] 32 f = _
      have c1 : ∀ f, onU (fun _ => 0) (1 * 32) [] 32 f = if 1 * 32 ≤ f ∧ f < 1 * 32 + 32 then 1 else 0 := onU_nil _ _ _ (fun f => by omega)
      rw [onU_nil _ _ _ (fun f => by rw [c1]; split <;> omega), c1]
      by_cases c : 0 * 32 ≤ f ∧ f < 0 * 32 + 32
      · rw [if_pos c, if_pos (by omega)]
      · rw [if_neg c]
        by_cases d : f < 64
        · rw [if_pos (by omega), if_pos d]
        · rw [if_neg (by omega), if_neg d]
    · show upd (upd (fun _ => 0) 1 2) 0 3 s = _
      unfold upd
      by_cases c : s = 0
      · simp [c]
      · simp [c]
    · show updB (updB (fun _ => false) 1 false) 0 false s = false
      unfold updB
      split
      · rfl
      · split <;> rfl
  exact ⟨key 0, key 32, e1, e3⟩
theorem two_alloc {S : PS} {lo hi : Nat} (h : Two S lo hi) (hle : lo ≤ hi) : Two { S with U := allocU S.U hi 1 3 } lo (hi + 1) := by
  refine ⟨fun f => ?_, h.z, h.i⟩
  show allocU S.U hi 1 3 f = _
  unfold allocU
  by_cases c : hi ≤ f ∧ f < hi + 1
  · rw [if_pos c, if_pos (by omega)]
  · rw [if_neg c, h.u]
    by_cases d : lo ≤ f ∧ f < hi
    · rw [if_pos d, if_pos (by omega)]
    · have d' : ¬ (lo ≤ f ∧ f < hi + 1) := by omega
      rw [if_neg d, if_neg d']
theorem two_good {S : PS} {lo hi : Nat} (h : Two S lo hi) (z : Int) (hz : z = 2 ∨ z = 3) (f : Nat) : Good S.U S.Z S.I z 1 f ↔ (f < 64 ∧ ¬ (lo ≤ f ∧ f < hi) ∧ (z = 3 ↔ f < 32)) := by
  constructor
  · rintro ⟨h1, h2, h3, h4, h5⟩
    have h6 := h5 0 (by omega)
    rw [Nat.add_zero, h.u] at h6
    rw [h.z] at h3
    by_cases c : lo ≤ f ∧ f < hi
    · rw [if_pos c] at h6; omega
    · rw [if_neg c] at h6
      by_cases d : f < 64
      · refine ⟨d, c, ?_⟩
        by_cases e : f < 32
        · rw [if_pos (by omega)] at h3; omega
        · rw [if_neg (by omega), if_pos (by omega)] at h3; omega
      · rw [if_neg d] at h6; omega
  · rintro ⟨h1, h2, h3⟩
    refine ⟨Nat.mod_one f, by omega, ?_, h.i _, fun k hk => ?_⟩
    · rw [h.z]
      by_cases e : f < 32
      · rw [if_pos (by omega), h3.mpr e]
      · rw [if_neg (by omega), if_pos (by omega)]
        rcases hz with rfl | rfl
        · rfl
        · exact absurd (h3.mp rfl) e
    · obtain rfl : k = 0 := by omega
      rw [Nat.add_zero, h.u, if_neg h2, if_pos h1]
theorem two_mov {S : PS} {i : Nat} (h : Two S 0 i) : S.pick 0 true = if i < 64 then some i else none := by
  by_cases c : i < 32
  · rw [if_pos (by omega)]
    refine pick_three S 0 i (first_some S 3 1 i (by omega) ⟨(two_good h 3 (.inr rfl) i).mpr ⟨by omega, by omega, by omega⟩, fun g hg hG => ?_⟩)
    have := (two_good h 3 (.inr rfl) g).mp hG
    omega
  · have h3 : S.first 3 1 = none := first_none S 3 1 (fun g hG => by have := (two_good h 3 (.inr rfl) g).mp hG; omega)
    rw [pick_two S 0 h3]
    by_cases d : i < 64
    · rw [if_pos d]
      refine first_some S 2 1 i (by omega) ⟨(two_good h 2 (.inl rfl) i).mpr ⟨by omega, by omega, by omega⟩, fun g hg hG => ?_⟩
      have := (two_good h 2 (.inl rfl) g).mp hG
      omega
    · rw [if_neg d]
      exact first_none S 2 1 (fun g hG => by have := (two_good h 2 (.inl rfl) g).mp hG; omega)
theorem two_not {S : PS} {i : Nat} (h : Two S 32 (32 + i)) : S.pick 0 false = if i < 32 then some (32 + i) else none := by
  rw [pick_no]
  by_cases d : i < 32
  · rw [if_pos d]
    refine first_some S 2 1 (32 + i) (by omega) ⟨(two_good h 2 (.inl rfl) (32 + i)).mpr ⟨by omega, by omega, by omega⟩, fun g hg hG => ?_⟩
    have := (two_good h 2 (.inl rfl) g).mp hG
    omega
  · rw [if_neg d]
    exact first_none S 2 1 (fun g hG => by have := (two_good h 2 (.inl rfl) g).mp hG; omega)
/-- behind i calls -/
def TwoAt (mov : Bool) (S : PS) (i : Nat) : Prop := if mov then Two S 0 (if i < 64 then i else 64) else Two S 32 (32 + (if i < 32 then i else 32))
theorem twoAt_mov {S : PS} {i : Nat} (h : TwoAt true S i) : (i < 64 → S.allocE 3 0 true = 0 ∧ S.allocF 3 0 true = i) ∧ (64 ≤ i → S.allocE 3 0 true = 4 ∧ S.allocF 3 0 true = 0) ∧ TwoAt true (S.alloc 3 0 true) (i + 1) := by
  unfold TwoAt at *
  rw [if_pos rfl] at h ⊢
  have hp := two_mov h
  by_cases c : i < 64
  · rw [if_pos c] at h hp
    rw [if_pos c] at hp
    obtain ⟨h1, h2, h3⟩ := alloc_some (u := 3) (by decide) hp
    refine ⟨fun _ => ⟨h1, h2⟩, fun x => by omega, ?_⟩
    rw [h3]
    have := two_alloc h (by omega)
    by_cases d : i + 1 < 64
    · rw [if_pos d]; exact this
    · rw [if_neg d]; obtain rfl : i = 63 := by omega
      exact this
  · rw [if_neg c] at h hp
    rw [if_neg (by omega)] at hp
    obtain ⟨h1, h2, h3⟩ := alloc_full (u := 3) (by decide) hp
    refine ⟨fun x => absurd x c, fun _ => ⟨h1, h2⟩, ?_⟩
    rw [h3, if_neg (by omega)]; exact h
theorem twoAt_not {S : PS} {i : Nat} (h : TwoAt false S i) : (i < 32 → S.allocE 3 0 false = 0 ∧ S.allocF 3 0 false = 32 + i) ∧ (32 ≤ i → S.allocE 3 0 false = 4 ∧ S.allocF 3 0 false = 0) ∧ TwoAt false (S.alloc 3 0 false) (i + 1) := by
  unfold TwoAt at *
  rw [if_neg (by decide)] at h ⊢
  have hp := two_not h
  by_cases c : i < 32
  · rw [if_pos c] at h hp
    rw [if_pos c] at hp
    obtain ⟨h1, h2, h3⟩ := alloc_some (u := 3) (by decide) hp
    refine ⟨fun _ => ⟨h1, h2⟩, fun x => by omega, ?_⟩
    rw [h3]
    have := two_alloc h (by omega)
    by_cases d : i + 1 < 32
    · rw [if_pos d]; exact this
    · rw [if_neg d]; obtain rfl : i = 31 := by omega
      exact this
  · rw [if_neg c] at h hp
    rw [if_neg (by omega)] at hp
    obtain ⟨h1, h2, h3⟩ := alloc_full (u := 3) (by decide) hp
    refine ⟨fun x => absurd x c, fun _ => ⟨h1, h2⟩, ?_⟩
    rw [h3, if_neg (by omega)]; exact h
def OrdRel (w0 : World) (p b bi : Nat) (mov : Bool) (i : Value) (wr : World) : Prop := ∃ (k : Nat) (S : PS), k ≤ 80 ∧ i = .int .i64 k ∧ PL w0 wr p b bi S ∧ TwoAt mov S k
set_option maxHeartbeats 1000000 in
theorem poolOrder (n : Int) (mov : Bool) (w : World) (h0 : 0 ≤ n) (h1 : n ≤ 255) : Calls Try.prog 5 #[.int .u8 n, .bool mov] w (True1 w) := by
  obtain ⟨t1, t2, t3, t4⟩ := two_start
  have T : TwoAt mov ((PS.new.online 1 2 []).online 0 3 []) 0 := by
    unfold TwoAt; cases mov
    · exact t2
    · exact t1
  have HT := Lib.hid T
  clear T t1 t2
  go_enter Try.func5, Try.ntmps5
  go_wp2_with fail
  refine (l_new w).mono ?_
  rintro e w1 ⟨p, b, bi, rfl, h⟩
  have hon := l_online0 1 2 h
  rw [t3] at hon
  clear h
  go_wp2_with fail
  refine hon.mono ?_
  rintro e w2 ⟨rfl, h⟩
  clear hon
  have hon := l_online0 0 3 h
  rw [t4] at hon
  clear h
  go_wp2_with fail
  refine hon.mono ?_
  rintro e w3 ⟨rfl, h⟩
  clear hon t3 t4
  go_wp2_with fail
  obtain ⟨kk, hkk⟩ := Int.eq_ofNat_of_zero_le (show 0 ≤ n % 80 by omega)
  have hk80 : kk < 80 := by omega
  rw [hkk]
  clear hkk
  generalize (PS.new.online 1 2 []).online 0 3 [] = S0 at *
  go_loopw [7] (fun i wr => OrdRel w p b bi mov i wr) (fun i wr => (kk - intOf i).toNat)
  case atStart => exact ⟨0, S0, by omega, rfl, h, HT.out⟩
  case round =>
    obtain ⟨k, S, hk, rfl, h, hT⟩ := hrel
    by_cases hlt : k < kk
    · have hal := l_alloc 3 0 mov h
      have nx : ∀ w', PL w w' p b bi (S.alloc 3 0 mov) → TwoAt mov (S.alloc 3 0 mov) (k + 1) → OrdRel w p b bi mov (.int .i64 ((k : Int) + 1)) w' := fun w' h1 h2 => ⟨k + 1, _, by omega, rfl, h1, h2⟩
      have NX := Lib.hid nx
      clear nx h
      cases mov
      · obtain ⟨g1, g2, g3⟩ := twoAt_not hT
        have G3 := Lib.hid g3
        clear hT g3
        by_cases c : k < 32
        · rw [(g1 c).1, (g1 c).2] at hal
          clear g1 g2
          go_wp2_with fail
          refine hal.mono ?_
          rintro e w4 ⟨rfl, h⟩
          have N := NX.out w4 h G3.out
          clear hal h NX G3
          go_wp2_with fail
          go_roundw
          case rel => exact N
          case measure => simp [intOf]; omega
        · have c' : 32 ≤ k := by omega
          rw [(g2 c').1, (g2 c').2] at hal
          clear g1 g2
          go_wp2_with fail
          refine hal.mono ?_
          rintro e w4 ⟨rfl, h⟩
          have N := NX.out w4 h G3.out
          clear hal h NX G3
          go_wp2_with fail
          go_roundw
          case rel => exact N
          case measure => simp [intOf]; omega
      · obtain ⟨g1, g2, g3⟩ := twoAt_mov hT
        have G3 := Lib.hid g3
        clear hT g3
        by_cases c : k < 64
        · rw [(g1 c).1, (g1 c).2] at hal
          clear g1 g2
          go_wp2_with fail
          refine hal.mono ?_
          rintro e w4 ⟨rfl, h⟩
          have N := NX.out w4 h G3.out
          clear hal h NX G3
          go_wp2_with fail
          go_roundw
          case rel => exact N
          case measure => simp [intOf]; omega
        · have c' : 64 ≤ k := by omega
          rw [(g2 c').1, (g2 c').2] at hal
          clear g1 g2
          go_wp2_with fail
          refine hal.mono ?_
          rintro e w4 ⟨rfl, h⟩
          have N := NX.out w4 h G3.out
          clear hal h NX G3
          go_wp2_with fail
          go_roundw
          case rel => exact N
          case measure => simp [intOf]; omega
    · have hc := h.ch
      clear h hT
      go_wp2_with fail
      refine (answers_any wr).mono ?_
      rintro e w5 ⟨rfl, hC⟩
      have fin : True1 w (.returned (.bool true)) w5 := ⟨rfl, hc.trans hC (fun i _ hh => hh)⟩
      clear hC hc
      go_wp2_with fail
      go_ret
      exact fin
theorem True1.row {W : World} {e : Ending} {w' : World} (h : True1 W e w') : e = .returned (.bool true) ∧ Below W.heap.size W w' :=
  ⟨h.1, h.2.below (Nat.le_refl _) (fun i hh => hh.elim)⟩
theorem u8_bounds {n : Int} (h : (Lit.int .u8 n).wf = true) : 0 ≤ n ∧ n ≤ 255 := by
  simp only [Lit.wf, Bool.and_eq_true, decide_eq_true_eq] at h
  have e1 : IntKind.u8.min = 0 := rfl
  have e2 : IntKind.u8.max = 255 := rfl
  omega
theorem poolNone_row (n : Int) (W : World) (_ : (Lit.int .i64 n).wf = true) : Calls Try.prog 12 #[.int .i64 n] W fun e W' => e = .returned (.bool true) ∧ Below W.heap.size W W' :=
  (poolNone n W).mono fun _ _ h => h.row
theorem poolOrder_row (n : Int) (mov : Bool) (W : World) (h : (Lit.int .u8 n).wf = true) : Calls Try.prog 5 #[.int .u8 n, .bool mov] W fun e W' => e = .returned (.bool true) ∧ Below W.heap.size W W' :=
  (poolOrder n mov W (u8_bounds h).1 (u8_bounds h).2).mono fun _ _ h => h.row
end Go.Proofs.Ytlhlnkfmmklkbaa.Pool
