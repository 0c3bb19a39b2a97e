/- Frames and what they are used for: PoolTwice. -/
import Derived.Test.YtlhlnkfmmklkbaaPoolR
namespace Go.Proofs.Ytlhlnkfmmklkbaa.Pool
open Go.RowKit Go.Proofs.Ytlhlnkfmmklkbaa.Hp Go.Proofs.Ytlhlnkfmmklkbaa.Runs
set_option linter.unusedVariables false
set_option linter.unusedSimpArgs false
theorem cnt_two (U : Nat → Int) (a k : Nat) : cnt U 1 a k + cnt U 6 a k ≤ k ∧ (cnt U 1 a k + cnt U 6 a k = k ↔ ∀ j, j < k → U (a + j) = 1 ∨ U (a + j) = 6) := by
  induction k with
  | zero => exact ⟨Nat.le_refl _, fun _ j hj => by omega, fun _ => rfl⟩
  | succ k ih =>
    obtain ⟨h1, h2⟩ := ih
    have e1 : cnt U 1 a (k + 1) = cnt U 1 a k + (if U (a + k) == 1 then 1 else 0) := rfl
    have e6 : cnt U 6 a (k + 1) = cnt U 6 a k + (if U (a + k) == 6 then 1 else 0) := rfl
    by_cases c1 : U (a + k) = 1
    · have f1 : (U (a + k) == 1) = true := by simp [c1]
      have f6 : (U (a + k) == 6) = false := by simp [c1]
      rw [f1] at e1; rw [f6] at e6
      rw [if_pos rfl] at e1; rw [if_neg (by decide)] at e6
      refine ⟨by omega, fun h j hj => ?_, fun h => ?_⟩
      · by_cases e : j = k
        · subst e; exact .inl c1
        · exact h2.mp (by omega) j (by omega)
      · have := h2.mpr (fun j hj => h j (by omega)); omega
    · have f1 : (U (a + k) == 1) = false := by simp [c1]
      rw [f1] at e1
      rw [if_neg (by decide)] at e1
      by_cases c6 : U (a + k) = 6
      · have f6 : (U (a + k) == 6) = true := by simp [c6]
        rw [f6] at e6
        rw [if_pos rfl] at e6
        refine ⟨by omega, fun h j hj => ?_, fun h => ?_⟩
        · by_cases e : j = k
          · subst e; exact .inr c6
          · exact h2.mp (by omega) j (by omega)
        · have := h2.mpr (fun j hj => h j (by omega)); omega
      · have f6 : (U (a + k) == 6) = false := by simp [c6]
        rw [f6] at e6
        rw [if_neg (by decide)] at e6
        refine ⟨by omega, fun h => by omega, fun h => ?_⟩
        rcases h k (by omega) with x | x
        · exact absurd x c1
        · exact absurd x c6
theorem idle_iff (S : PS) (s : Nat) : S.idle s ↔ ∀ j, j < 32 → S.U (s * 32 + j) = 1 ∨ S.U (s * 32 + j) = 6 := (cnt_two S.U (s * 32) 32).2
theorem cnt_all (U : Nat → Int) (u : Int) (a k : Nat) (h : ∀ j, j < k → U (a + j) = u) : cnt U u a k = k := by
  induction k with
  | zero => rfl
  | succ k ih =>
    unfold cnt
    rw [ih (fun j hj => h j (by omega)), if_pos (by simp [h k (by omega)])]
/-- nothing is on line -/
structure Bare (S : PS) : Prop where
  u : ∀ f, S.U f = 0
  z : ∀ s, S.Z s = 0
  i : ∀ s, S.I s = false
theorem one_start' {S : PS} (h : Bare S) (c : Nat) (hc : c < 32) (z : Int) (hz : z = 2 ∨ z = 3) (u : Int) (Q : Nat → Prop) (hQ : ∀ f, c * 32 ≤ f ∧ f < c * 32 + 32 → ¬ Q f) : S.onE c z = 0 ∧ One (S.online c z []) c z u Q := by
  obtain ⟨e1, e2⟩ := online_ok (S := S) (s := c) (z := z) ⟨by omega, by omega⟩ hz (h.z _) []
  refine ⟨e1, ?_⟩
  rw [e2]
  have hU := onU_nil S.U (c * 32) 32 (fun f => by rw [h.u]; omega)
  refine ⟨fun f => ⟨fun hh => ⟨fun hq => absurd hq (hQ f hh), fun _ => ?_⟩, fun hh => ?_⟩, fun s => ?_, fun s => ?_⟩
  · show onU S.U (Int.toNat c * 32) [] 32 f = 1
    rw [Int.toNat_natCast, hU, if_pos hh]
  · show onU S.U (Int.toNat c * 32) [] 32 f = 0
    rw [Int.toNat_natCast, hU, if_neg hh]; exact h.u f
  · show upd S.Z (Int.toNat c) z s = _
    rw [Int.toNat_natCast]
    unfold upd
    rw [h.z]
  · show updB S.I (Int.toNat c) false s = false
    unfold updB
    rw [h.i]
    split <;> rfl
theorem one_there {S : PS} {c : Nat} {z u : Int} {Q : Nat → Prop} (h : One S c z u Q) (hz : z ≠ 0) (hc : c < 32) (y : Int) (hy : y = 2 ∨ y = 3) : S.onE c y = 3 ∧ S.online c y [] = S := by
  have E : S.onE c y = 3 := by
    unfold PS.onE
    rw [if_pos ⟨⟨by omega, by omega⟩, hy⟩, Int.toNat_natCast, h.z, if_pos rfl, if_neg hz]
  refine ⟨E, ?_⟩
  unfold PS.online
  rw [E, if_neg (by decide)]
theorem one_busy {S : PS} {c : Nat} {z u : Int} {Q : Nat → Prop} (h : One S c z u Q) (hz : z ≠ 0) (hc : c < 32) (hu : u ≠ 1 ∧ u ≠ 6) (f : Nat) (hf : c * 32 ≤ f ∧ f < c * 32 + 32) (hq : Q f) : S.offE c = 5 ∧ S.offline c = S := by
  have E : S.offE c = 5 := by
    unfold PS.offE
    rw [if_pos ⟨by omega, by omega⟩, Int.toNat_natCast, h.z, if_pos rfl, if_neg hz, if_neg]
    intro hi
    have := (idle_iff S c).mp hi (f - c * 32) (by omega)
    rw [show c * 32 + (f - c * 32) = f from by omega, ((h.u f).1 hf).1 hq] at this
    omega
  refine ⟨E, ?_⟩
  unfold PS.offline
  rw [E, if_neg (by decide)]
theorem one_off {S : PS} {c : Nat} {z u : Int} {Q : Nat → Prop} (h : One S c z u Q) (hz : z ≠ 0) (hc : c < 32) (hq : ∀ f, c * 32 ≤ f ∧ f < c * 32 + 32 → ¬ Q f) : S.offE c = 0 ∧ Bare (S.offline c) := by
  have hall : ∀ f, c * 32 ≤ f ∧ f < c * 32 + 32 → S.U f = 1 := fun f hf => ((h.u f).1 hf).2 (hq f hf)
  have E : S.offE c = 0 := by
    unfold PS.offE
    rw [if_pos ⟨by omega, by omega⟩, Int.toNat_natCast, h.z, if_pos rfl, if_neg hz, if_pos]
    exact (idle_iff S c).mpr (fun j hj => .inl (hall _ (by omega)))
  refine ⟨E, ?_⟩
  unfold PS.offline
  rw [if_pos E, Int.toNat_natCast]
  refine ⟨fun f => ?_, fun s => ?_, fun s => ?_⟩
  · show offU S.U (c * 32) 32 f = 0
    unfold offU
    by_cases e : c * 32 ≤ f ∧ f < c * 32 + 32
    · rw [if_pos ⟨e, by rw [hall f e]; decide⟩]
    · rw [if_neg (fun x => e x.1)]; exact (h.u f).2 e
  · show upd S.Z c 0 s = 0
    unfold upd
    by_cases e : s = c
    · rw [if_pos e]
    · rw [if_neg e, h.z, if_neg e]
  · show updB S.I c false s = false
    unfold updB
    rw [h.i]; split <;> rfl
theorem bare_off {S : PS} (h : Bare S) (c : Nat) (hc : c < 32) : S.offE c = 2 ∧ S.offline c = S := by
  have E : S.offE c = 2 := by
    unfold PS.offE
    rw [if_pos ⟨by omega, by omega⟩, if_pos (h.z _)]
  refine ⟨E, ?_⟩
  unfold PS.offline
  rw [E, if_neg (by decide)]
theorem one_step2 {S : PS} {c k : Nat} (hc : c < 32) (hk : k < 32) (h : One S c 2 2 (fun f => f < c * 32 + k)) : S.allocE 2 0 false = 0 ∧ S.allocF 2 0 false = c * 32 + k ∧ One (S.alloc 2 0 false) c 2 2 (fun f => f < c * 32 + (k + 1)) := by
  have hp := one_pick2 h (by decide) hc (c * 32 + k) (by omega) (by omega) (fun g _ hg => hg)
  obtain ⟨h1, h2, h3⟩ := alloc_some (u := 2) (by decide) hp
  exact ⟨h1, h2, by rw [h3]; exact one_more h (c * 32 + k) (by omega) (fun g => by omega)⟩
theorem one_zone {S : PS} {c : Nat} {z u : Int} {Q : Nat → Prop} (h : One S c z u Q) (hc : c < 32) : S.zone c = z := by
  unfold PS.zone zoneD
  rw [if_pos ⟨by omega, by omega⟩, Int.toNat_natCast, h.z, if_pos rfl]
theorem one_count {S : PS} {c : Nat} {z u : Int} (h : One S c z u (fun _ => False)) (hc : c < 32) : S.count c 1 = 32 := by
  unfold PS.count
  rw [if_pos ⟨by omega, by omega⟩, Int.toNat_natCast]
  exact cnt_all _ _ _ _ (fun j hj => ((h.u _).1 (by omega)).2 (fun x => x))
theorem one_congr {S : PS} {c : Nat} {z u : Int} {Q Q' : Nat → Prop} (h : One S c z u Q) (hq : ∀ f, c * 32 ≤ f ∧ f < c * 32 + 32 → (Q' f ↔ Q f)) : One S c z u Q' :=
  ⟨fun f => ⟨fun hf => ⟨fun x => ((h.u f).1 hf).1 ((hq f hf).mp x), fun x => ((h.u f).1 hf).2 (fun y => x ((hq f hf).mpr y))⟩, (h.u f).2⟩, h.z, h.i⟩
def TwA (w0 : World) (p b bi c n : Nat) (i : Value) (wr : World) : Prop := ∃ (k : Nat) (S : PS), k ≤ n ∧ i = .int .i64 k ∧ PL w0 wr p b bi S ∧ One S c 2 2 (fun f => f < c * 32 + k)
def TwB (w0 : World) (p b bi c n : Nat) (i : Value) (wr : World) : Prop := ∃ (k : Nat) (S : PS), k ≤ n ∧ i = .int .i64 k ∧ PL w0 wr p b bi S ∧ One S c 2 2 (fun f => c * 32 + k ≤ f ∧ f < c * 32 + n)
set_option maxHeartbeats 2000000 in
theorem poolTwice (s u : Int) (w : World) (h0 : 0 ≤ s) (h1 : s ≤ 255) (h2 : 0 ≤ u) (h3 : u ≤ 255) : Calls Try.prog 8 #[.int .u8 s, .int .u8 u] w (True1 w) := by
  obtain ⟨c, hcc⟩ := Int.eq_ofNat_of_zero_le (show 0 ≤ s % 32 by omega)
  have hc : c < 32 := by omega
  obtain ⟨n, hnn⟩ := Int.eq_ofNat_of_zero_le (show 0 ≤ u % 5 by omega)
  have hn : n < 5 := by omega
  have HC := Lib.hid hcc
  have HN := Lib.hid hnn
  clear hcc hnn
  obtain ⟨t1, t2⟩ := one_start c hc 2 (.inl rfl) 2 (fun f => f < c * 32 + 0) (fun f hf => by omega)
  obtain ⟨t3, t4⟩ := one_there t2 (by decide) hc 3 (.inr rfl)
  have HT := Lib.hid (And.intro t1 (And.intro t2 (And.intro t3 t4)))
  clear t1 t2 t3 t4
  go_enter Try.func8, Try.ntmps8
  go_wp2_with fail
  refine (l_new w).mono ?_
  rintro e w1 ⟨p, b, bi, rfl, h⟩
  have hon := l_online0 c 2 h
  rw [HT.out.1] at hon
  clear h
  go_wp2_with fail
  rw [HC.out]
  refine hon.mono ?_
  rintro e w2 ⟨rfl, h⟩
  clear hon
  have hon := l_online0 c 3 h
  rw [HT.out.2.2.1, HT.out.2.2.2] at hon
  clear h
  go_wp2_with fail
  refine hon.mono ?_
  rintro e w3 ⟨rfl, h⟩
  clear hon
  have T := Lib.hid HT.out.2.1
  clear HT
  generalize PS.new.online c 2 [] = S0 at *
  go_wp2_with fail
  rw [HN.out]
  go_loopw [10] (fun i wr => TwA w p b bi c n i wr) (fun i wr => (n - intOf i).toNat)
  case atStart => exact ⟨0, S0, by omega, rfl, h, T.out⟩
  case round =>
    obtain ⟨k, S, hk, rfl, h, hT⟩ := hrel
    by_cases hlt : k < n
    · have hal := l_alloc 2 0 false h
      obtain ⟨g1, g2, g3⟩ := one_step2 hc (by omega) hT
      have nx : ∀ w', PL w w' p b bi (S.alloc 2 0 false) → TwA w p b bi c n (.int .i64 ((k : Int) + 1)) w' := fun w' h1 => ⟨k + 1, _, by omega, rfl, h1, g3⟩
      have NX := Lib.hid nx
      rw [g1, g2] at hal
      clear nx h g1 g2 g3 hT
      go_wp2_with fail
      refine hal.mono ?_
      rintro e w4 ⟨rfl, h⟩
      have N := NX.out w4 h
      clear hal h NX
      go_wp2_with fail
      go_roundw
      case rel => exact N
      case measure => simp [intOf]; omega
    · obtain rfl : k = n := by omega
      by_cases n0 : k = 0
      · obtain ⟨g1, hB⟩ := one_off hT (by decide) hc (fun f hf => by omega)
        have ho := l_offline c h
        rw [g1] at ho
        clear h hT g1 T
        subst n0
        go_wp2_with fail
        refine ho.mono ?_
        rintro e w5 ⟨rfl, h⟩
        clear ho
        generalize S.offline c = S2 at *
        have HB := Lib.hid hB
        clear hB
        go_wp2_with fail
        go_loopw [12] (fun i wr => i = .int .i64 0 ∧ wr = w5) (fun i wr => 0)
        case atStart => exact ⟨rfl, rfl⟩
        case round =>
          obtain ⟨rfl, rfl⟩ := hrel
          have hB := HB.out
          have hd := l_offline c h
          rw [(bare_off hB c hc).1, (bare_off hB c hc).2] at hd
          clear h
          go_wp2_with fail
          refine hd.mono ?_
          rintro e w6 ⟨rfl, h⟩
          clear hd
          have O := Lib.hid (one_start' hB c hc 3 (.inr rfl) 2 (fun _ => False) (fun _ _ x => x))
          have he := l_online0 c 3 h
          rw [O.out.1] at he
          clear h hB
          go_wp2_with fail
          refine he.mono ?_
          rintro e w7 ⟨rfl, h⟩
          clear he
          have O2 := Lib.hid O.out.2
          clear O
          generalize PS.online _ _ _ _ = S3 at *
          go_wp2_with fail
          refine (answers_any w7).mono ?_
          rintro e w8 ⟨rfl, hC⟩
          have h := h.keep hC
          have hz := l_zone c h
          have hn := l_count c 1 h
          rw [one_zone O2.out hc] at hz
          rw [one_count O2.out hc] at hn
          have fin : True1 w (.returned (.bool true)) w8 := ⟨rfl, h.ch⟩
          clear h hC
          go_wp2_with fail
          refine hz.mono ?_
          rintro e w9 ⟨rfl, rfl⟩
          clear hz
          go_wp2_with fail
          refine hn.mono ?_
          rintro e w10 ⟨rfl, rfl⟩
          clear hn
          go_wp2_with fail
          go_ret
          exact fin
      · obtain ⟨g1, g2⟩ := one_busy hT (by decide) hc (by decide) (c * 32) (by omega) (by omega)
        have ho := l_offline c h
        rw [g1, g2] at ho
        have HTT := Lib.hid hT
        have K0 : 0 < k := by omega
        clear h hT g1 g2 T n0
        go_wp2_with fail
        refine ho.mono ?_
        rintro e w5 ⟨rfl, h⟩
        clear ho
        go_wp2_with fail
        go_loopw [12] (fun i wr => TwB w p b bi c k i wr) (fun i wr => (k - intOf i).toNat)
        case atStart => exact ⟨0, S, by omega, rfl, h, by refine one_congr HTT.out (fun f hf => ?_); omega⟩
        case round =>
          obtain ⟨j, S1, hj, rfl, h, hT⟩ := hrel
          by_cases hlt : j < k
          · obtain ⟨g1, g2⟩ := one_free hT (by decide) hc (c * 32 + j) (by omega) (by omega) (Q' := fun f => c * 32 + (j + 1) ≤ f ∧ f < c * 32 + k) (fun g => by omega)
            have hf := l_free (c * 32 + j : Nat) h
            rw [g1] at hf
            rw [show ((c * 32 + j : Nat) : Int) = 32 * (c : Int) + j from by omega] at hf g2
            have nx : ∀ w', PL w w' p b bi (S1.free (32 * (c : Int) + j)) → TwB w p b bi c k (.int .i64 ((j : Int) + 1)) w' := fun w' h1 => ⟨j + 1, _, by omega, rfl, h1, g2⟩
            have NX := Lib.hid nx
            clear nx h g1 g2 hT
            go_wp2_with fail
            refine hf.mono ?_
            rintro e w4 ⟨rfl, h⟩
            have N := NX.out w4 h
            clear hf h NX
            go_wp2_with fail
            go_roundw
            case rel => exact N
            case measure => simp [intOf]; omega
          · obtain rfl : j = k := by omega
            obtain ⟨g1, hB⟩ := one_off hT (by decide) hc (fun f hf => by omega)
            have ho := l_offline c h
            rw [g1] at ho
            clear h hT g1
            go_wp2_with fail
            refine ho.mono ?_
            rintro e w5 ⟨rfl, h⟩
            clear ho
            generalize S1.offline c = S2 at *
            have hd := l_offline c h
            rw [(bare_off hB c hc).1, (bare_off hB c hc).2] at hd
            clear h
            go_wp2_with fail
            refine hd.mono ?_
            rintro e w6 ⟨rfl, h⟩
            clear hd
            have O := Lib.hid (one_start' hB c hc 3 (.inr rfl) 2 (fun _ => False) (fun _ _ x => x))
            have he := l_online0 c 3 h
            rw [O.out.1] at he
            clear h hB
            go_wp2_with fail
            refine he.mono ?_
            rintro e w7 ⟨rfl, h⟩
            clear he
            have O2 := Lib.hid O.out.2
            clear O
            generalize PS.online _ _ _ _ = S3 at *
            go_wp2_with fail
            refine (answers_any w7).mono ?_
            rintro e w8 ⟨rfl, hC⟩
            have h := h.keep hC
            have hz := l_zone c h
            have hn := l_count c 1 h
            rw [one_zone O2.out hc] at hz
            rw [one_count O2.out hc] at hn
            have fin : True1 w (.returned (.bool true)) w8 := ⟨rfl, h.ch⟩
            clear h hC
            go_wp2_with fail
            refine hz.mono ?_
            rintro e w9 ⟨rfl, rfl⟩
            clear hz
            go_wp2_with fail
            refine hn.mono ?_
            rintro e w10 ⟨rfl, rfl⟩
            clear hn
            go_wp2_with fail
            go_ret
            exact fin
theorem poolTwice_row (s u : Int) (W : World) (h : (Lit.int .u8 s).wf = true) (h' : (Lit.int .u8 u).wf = true) : Calls Try.prog 8 #[.int .u8 s, .int .u8 u] W fun e W' => e = .returned (.bool true) ∧ Below W.heap.size W W' :=
  (poolTwice s u W (u8_bounds h).1 (u8_bounds h).2 (u8_bounds h').1 (u8_bounds h').2).mono fun _ _ h => h.row
end Go.Proofs.Ytlhlnkfmmklkbaa.Pool
