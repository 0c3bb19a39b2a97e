/- PoolCounts. -/
import Derived.Test.YtlhlnkfmmklkbaaPoolAb
namespace Go.Proofs.Ytlhlnkfmmklkbaa.Pool
open Go.RowKit Go.Proofs.Ytlhlnkfmmklkbaa.Hp Go.Proofs.Ytlhlnkfmmklkbaa.Runs
set_option linter.unusedVariables false
set_option linter.unusedSimpArgs false
/-- each use is one of seven -/
def PS.ok (S : PS) : Prop := ∀ f, 0 ≤ S.U f ∧ S.U f ≤ 6
theorem ok_new : PS.new.ok := fun f => by show (0 : Int) ≤ 0 ∧ (0 : Int) ≤ 6; omega
theorem ok_upd {U : Nat → Int} (h : ∀ f, 0 ≤ U f ∧ U f ≤ 6) (x : Nat) (u : Int) (hu : 0 ≤ u ∧ u ≤ 6) : ∀ f, 0 ≤ upd U x u f ∧ upd U x u f ≤ 6 := by
  intro f; unfold upd; split
  · exact hu
  · exact h f
theorem ok_act {S : PS} (h : S.ok) (what a z : Int) (on : Bool) (bad : List Int) : (S.act what a z on bad).ok := by
  unfold PS.act
  split
  · unfold PS.online; split
    · intro f; show 0 ≤ onU S.U _ bad 32 f ∧ onU S.U _ bad 32 f ≤ 6
      unfold onU; split
      · split <;> omega
      · exact h f
    · exact h
  split
  · unfold PS.offline; split
    · intro f; show 0 ≤ offU S.U _ 32 f ∧ offU S.U _ 32 f ≤ 6
      unfold offU; split
      · omega
      · exact h f
    · exact h
  split
  · unfold PS.alloc; split
    · rename_i he
      have ha : ArgOk a z := by
        by_cases c : ArgOk a z
        · exact c
        · unfold PS.allocE at he; rw [if_neg c] at he; omega
      intro f; show 0 ≤ allocU S.U _ _ a f ∧ allocU S.U _ _ a f ≤ 6
      unfold allocU; split
      · have := ha.1; have := ha.2.1; omega
      · exact h f
    · exact h
  split
  · unfold PS.free; split
    · exact ok_upd h _ _ (by omega)
    · exact h
  split
  · unfold PS.spoil; split
    · exact ok_upd h _ _ (by omega)
    · exact h
  split
  · unfold PS.iso; split
    · exact h
    · exact h
  · exact h
/-- the sum of how many frames have the first m uses -/
def tot (U : Nat → Int) (a k : Nat) : Nat → Nat
  | 0 => 0
  | m + 1 => tot U a k m + cnt U m a k
theorem tot_zero (U : Nat → Int) (a m : Nat) : tot U a 0 m = 0 := by
  induction m with
  | zero => rfl
  | succ m ih => unfold tot; rw [ih]; rfl
theorem tot_step (U : Nat → Int) (a k m : Nat) (h : 0 ≤ U (a + k)) : tot U a (k + 1) m = tot U a k m + (if U (a + k) < m then 1 else 0) := by
  induction m with
  | zero => unfold tot; rw [if_neg (by omega)]
  | succ m ih =>
    have e : cnt U m a (k + 1) = cnt U m a k + (if U (a + k) == m then 1 else 0) := rfl
    show tot U a (k + 1) m + cnt U m a (k + 1) = tot U a k m + cnt U m a k + _
    rw [ih, e]
    by_cases c : U (a + k) = m
    · rw [if_neg (by omega), if_pos (by simp [c]), if_pos (by omega)]; omega
    · by_cases d : U (a + k) < m
      · rw [if_pos d, if_neg (by simp [c]), if_pos (by omega)]; omega
      · rw [if_neg d, if_neg (by simp [c]), if_neg (by omega)]; omega
theorem tot_all (U : Nat → Int) (a k : Nat) (h : ∀ f, 0 ≤ U f ∧ U f ≤ 6) : tot U a k 7 = k := by
  induction k with
  | zero => exact tot_zero U a 7
  | succ k ih => rw [tot_step U a k 7 (h _).1, ih, if_pos (by have := (h (a + k)).2; omega)]
theorem tot_le (U : Nat → Int) (a k m : Nat) (h : ∀ f, 0 ≤ U f ∧ U f ≤ 6) : tot U a k m ≤ k := by
  induction k with
  | zero => rw [tot_zero]; omega
  | succ k ih => rw [tot_step U a k m (h _).1]; split <;> omega
def PcRel (w0 : World) (p b bi v n : Nat) (i : Value) (wr : World) : Prop := ∃ (k : Nat) (S : PS), k ≤ n ∧ i = .int .i64 k ∧ Both w0 wr p b bi v S S ∧ S.ok
def CoRel (S : PS) (a : Nat) (sum use : Value) : Prop := ∃ m : Nat, m ≤ 7 ∧ use = .int .i64 m ∧ sum = .int .i64 (tot S.U a 32 m)
def CzRel (sum use : Value) : Prop := ∃ m : Nat, m ≤ 7 ∧ use = .int .i64 m ∧ sum = .int .i64 0
def CnRel (S : PS) (m a : Nat) (n f : Value) : Prop := ∃ k : Nat, k ≤ 32 ∧ f = .int .i64 ((a + k : Nat) : Int) ∧ n = .int .i64 (cnt S.U m a k)
set_option maxRecDepth 100000 in
set_option maxHeartbeats 2000000 in
theorem poolCounts (A : Option Addr) (len cap : Nat) (X : Nat → ActV) (s : Int) (w : World) (hl : (len : Int) ≤ 9223372036854775807) (h : IsActs w A len cap X) : Calls Try.prog 10 #[.slice A len cap, .int .i64 s] w (True1 w) := by
  by_cases big : 40 < len
  · go_enter Try.func10, Try.ntmps10
    go_wp2_with fail
    refine (answers_any w).mono ?_
    rintro e w1 ⟨rfl, hC⟩
    have fin : True1 w (.returned (.bool true)) w1 := ⟨rfl, hC⟩
    clear hC h
    go_wp2_with fail
    go_ret
    exact fin
  · have H := Lib.hid h
    clear h
    go_enter Try.func10, Try.ntmps10
    go_wp2_with fail
    refine (l_new w).mono ?_
    rintro e w1 ⟨p, b, bi, rfl, h⟩
    have hB := both_new h
    clear h
    go_wp2_with fail
    generalize w1.alloc (.cells Try.zeroCells58 58) = w2 at *
    generalize w1.heap.size = v at *
    go_loopw [7] (fun i wr => PcRel w p b bi v len i wr) (fun i wr => (len - intOf i).toNat)
    case atStart => exact ⟨0, _, by omega, rfl, hB, ok_new⟩
    case round =>
      clear hB
      obtain ⟨k, S, hk, rfl, hB, hok⟩ := hrel
      by_cases hlt : k < len
      · rcases H.out with ⟨_, rfl, _⟩ | ⟨ad, rfl, q1, q2, hX⟩
        · omega
        have hx := hX k hlt
        have hx1 := hx.old hB.pl.ch
        obtain ⟨m0, m1, m2, m3, m4⟩ := hx1.five
        have hdo := do_at hB hx
        have nx : ∀ S' w', Both w w' p b bi v S' S' → S'.ok → PcRel w p b bi v len (.int .i64 ((k : Int) + 1)) w' := fun S' w' h h2 => ⟨k + 1, S', by omega, rfl, h, h2⟩
        have NX := Lib.hid nx
        have HB := Lib.hid (And.intro hB hok)
        have HD := Lib.hid hdo
        clear nx hB hdo hx hx1 hX hok
        generalize X k = x at *
        by_cases hl : x.len ≤ 100
        · have hd := HD.out hl
          clear HD
          go_wp2_with fail
          refine hd.mono ?_
          rintro e w3 ⟨rfl, h3⟩
          have N := NX.out _ w3 h3 (ok_act HB.out.2 _ _ _ _ _)
          clear hd h3 NX
          go_wp2_with fail
          exact ⟨N, by simp [intOf]; omega⟩
        · have N := NX.out _ wr HB.out.1 HB.out.2
          clear HD NX
          go_wp2_with fail
          exact ⟨N, by simp [intOf]; omega⟩
      · obtain rfl : k = len := by omega
        have HB := Lib.hid (And.intro hB hok)
        clear hB hok
        by_cases hs : 0 ≤ s ∧ s < 32
        · obtain ⟨s0, s1⟩ := hs
          obtain ⟨t, rfl⟩ := Int.eq_ofNat_of_zero_le s0
          have ha : t * 32 + 32 ≤ 1024 := by omega
          go_wp2_with fail
          go_loop [8, 9] (fun sum use => CoRel S (t * 32) sum use) (fun sum use => (7 - intOf use).toNat)
          case atStart => exact ⟨0, by omega, rfl, rfl⟩
          case round =>
            obtain ⟨m, hm, rfl, rfl⟩ := hrel
            by_cases hm7 : m < 7
            · have tl := tot_le S.U (t * 32) 32 m HB.out.2
              have tn : tot S.U (t * 32) 32 (m + 1) = tot S.U (t * 32) 32 m + cnt S.U m (t * 32) 32 := rfl
              have nx : CoRel S (t * 32) (.int .i64 ((tot S.U (t * 32) 32 m : Int) + (cnt S.U m (t * 32) 32 : Nat))) (.int .i64 ((m : Int) + 1)) := ⟨m + 1, by omega, rfl, by rw [tn]; rfl⟩
              have NX := Lib.hid nx
              clear nx tn
              generalize tot S.U (t * 32) 32 m = tt at *
              go_wp2_with fail
              rw [show (32 : Int) * t = ((t * 32 : Nat) : Int) from by omega]
              go_loop [10, 11] (fun n f => CnRel S m (t * 32) n f) (fun n f => ((t : Int) * 32 + 32 - intOf f).toNat)
              case atStart => exact ⟨0, by omega, rfl, rfl⟩
              case round =>
                obtain ⟨j, hj, rfl, rfl⟩ := hrel
                by_cases hj32 : j < 32
                · have hc := HB.out.1.rr.use (t * 32 + j) (by omega)
                  have hn : cnt S.U m (t * 32) (j + 1) = cnt S.U m (t * 32) j + (if S.U (t * 32 + j) == (m : Int) then 1 else 0) := rfl
                  have hl := cnt_le S.U m (t * 32) j
                  have nx : ∀ x : Int, x = (cnt S.U m (t * 32) (j + 1) : Nat) → CnRel S m (t * 32) (.int .i64 x) (.int .i64 (((t * 32 + j : Nat) : Int) + 1)) := fun x hx => ⟨j + 1, by omega, rfl, by rw [hx]⟩
                  have q1 : t * 32 + j < 32 * t + 32 := by omega
                  by_cases e : (S.U (t * 32 + j) == (m : Int)) = true
                  · rw [if_pos e] at hn
                    have NY := Lib.hid (nx ((cnt S.U m (t * 32) j : Int) + 1) (by rw [hn]; rfl))
                    clear hn nx NX
                    generalize S.U (t * 32 + j) = x at *
                    generalize cnt S.U m (t * 32) j = n at *
                    go_wp2_with fail
                    exact ⟨NY.out, by simp [intOf]; omega⟩
                  · have e' : (S.U (t * 32 + j) == (m : Int)) = false := Bool.eq_false_iff.mpr e
                    rw [if_neg e] at hn
                    have NY := Lib.hid (nx (cnt S.U m (t * 32) j : Int) (by rw [hn]; rfl))
                    clear hn nx NX e
                    generalize S.U (t * 32 + j) = x at *
                    generalize cnt S.U m (t * 32) j = n at *
                    go_wp2_with fail
                    exact ⟨NY.out, by simp [intOf]; omega⟩
                · obtain rfl : j = 32 := by omega
                  have hcn := l_count t m HB.out.1.pl
                  rw [show S.count t m = cnt S.U m (t * 32) 32 from by unfold PS.count; rw [if_pos ⟨by omega, by omega⟩, Int.toNat_natCast]] at hcn
                  have hl := cnt_le S.U m (t * 32) 32
                  generalize cnt S.U m (t * 32) 32 = n at *
                  go_wp2_with fail
                  refine hcn.mono ?_
                  rintro e w3 ⟨rfl, rfl⟩
                  clear hcn
                  go_wp2_with fail
                  exact ⟨NX.out, by simp [intOf]; omega⟩
            · obtain rfl : m = 7 := by omega
              have ht := tot_all S.U (t * 32) 32 HB.out.2
              rw [ht]
              clear ht
              go_wp2_with fail
              refine (answers_any _).mono ?_
              rintro e w3 ⟨rfl, hC⟩
              have fin : True1 w (.returned (.bool true)) w3 := ⟨rfl, HB.out.1.pl.ch.trans hC (fun i _ hh => hh)⟩
              clear hC
              go_wp2_with fail
              go_ret
              exact fin
        · have hcc : decide (0 ≤ s) = false ∨ (decide (0 ≤ s) = true ∧ decide (s < 32) = false) := by
            by_cases d : 0 ≤ s
            · exact .inr ⟨decide_eq_true d, decide_eq_false (fun x => hs ⟨d, x⟩)⟩
            · exact .inl (decide_eq_false d)
          have hcount : ∀ m : Nat, S.count s m = 0 := fun m => if_neg hs
          have HC := Lib.hid hcount
          have hss : s < 0 ∨ 31 < s := by omega
          clear hcount hs
          rcases hcc with d0 | ⟨d0, d1⟩
          all_goals
            go_wp2_with fail
            go_loop [8, 9] (fun sum use => CzRel sum use) (fun sum use => (7 - intOf use).toNat)
            case atStart => exact ⟨0, by omega, rfl, rfl⟩
            case round =>
              obtain ⟨m, hm, rfl, rfl⟩ := hrel
              by_cases hm7 : m < 7
              · have nx : CzRel (.int .i64 0) (.int .i64 ((m : Int) + 1)) := ⟨m + 1, by omega, rfl, rfl⟩
                have hcn := l_count s m HB.out.1.pl
                rw [HC.out] at hcn
                go_wp2_with fail
                go_loop [10, 11] (fun n f => n = .int .i64 0) (fun n f => 0)
                case atStart => rfl
                case round =>
                  obtain rfl := hrel
                  go_wp2_with fail
                  refine hcn.mono ?_
                  rintro e w3 ⟨rfl, rfl⟩
                  clear hcn
                  go_wp2_with fail
                  exact ⟨nx, by simp [intOf]; omega⟩
              · obtain rfl : m = 7 := by omega
                go_wp2_with fail
                refine (answers_any _).mono ?_
                rintro e w3 ⟨rfl, hC⟩
                have fin : True1 w (.returned (.bool true)) w3 := ⟨rfl, HB.out.1.pl.ch.trans hC (fun i _ hh => hh)⟩
                clear hC
                rcases hss with hss | hss
                all_goals
                  go_wp2_with fail
                  go_ret
                  exact fin
theorem poolCounts_row (a0 : Option Addr) (len0 cap0 : Nat) (z0 : Nat → ActV) (a1 : Int) (W : World) (w0 : IsActs W a0 len0 cap0 z0) (_ : (Lit.int .i64 a1).wf = true) :
    Calls Try.prog 10 #[.slice a0 len0 cap0, .int .i64 a1] W fun e w' => e = .returned (.bool true) ∧ Below W.heap.size W w' :=
  (poolCounts a0 len0 cap0 z0 a1 W w0.lim w0).mono fun _ _ h => h.row
end Go.Proofs.Ytlhlnkfmmklkbaa.Pool
