/- Frames and what they are used for: run. -/
import Derived.Test.YtimdojkhdneecaaPoolL
import Derived.Test.YtimdojkhdneecaaHpD
namespace Go.Proofs.Ytimdojkhdneecaa.Pool
open Go.RowKit Go.Proofs.Ytimdojkhdneecaa.Hp Go.Proofs.Ytimdojkhdneecaa.Runs
set_option linter.unusedVariables false
set_option linter.unusedSimpArgs false
/-- the sections' cells -/
def secL (Z : Nat → Int) (I : Nat → Bool) : Nat → List Value
  | 0 => []
  | n + 1 => secL Z I n ++ [Value.int .i64 (Z n), Value.bool (I n)]
theorem secL_len (Z : Nat → Int) (I : Nat → Bool) (n : Nat) : (secL Z I n).length = n * 2 := by
  induction n with
  | zero => rfl
  | succ n ih => simp [secL, ih]; omega
theorem secL_at (Z : Nat → Int) (I : Nat → Bool) (n s : Nat) (hs : s < n) : (secL Z I n)[s * 2]? = some (.int .i64 (Z s)) ∧ (secL Z I n)[s * 2 + 1]? = some (.bool (I s)) := by
  induction n with
  | zero => omega
  | succ n ih =>
    have hl := secL_len Z I n
    unfold secL
    by_cases c : s < n
    · have := ih c
      rw [List.getElem?_append_left (by omega), List.getElem?_append_left (by omega)]; exact this
    · obtain rfl : s = n := by omega
      rw [List.getElem?_append_right (by omega), List.getElem?_append_right (by omega), hl]
      simp
def secC (Z : Nat → Int) (I : Nat → Bool) : Array Value := (secL Z I 32).toArray
theorem secC_size (Z : Nat → Int) (I : Nat → Bool) : (secC Z I).size = 64 := by simp [secC, secL_len]
theorem secC_at (Z : Nat → Int) (I : Nat → Bool) (s : Nat) (hs : s < 32) : (secC Z I).extract (s * 2) (s * 2 + 2) = #[.int .i64 (Z s), .bool (I s)] := by
  have h := secL_at Z I 32 s hs
  have hl := secC_size Z I
  apply Array.ext
  · rw [Array.size_extract, hl]; show _ = 2; omega
  · intro i h1 h2
    have hi : i < 2 := h2
    apply Option.some.inj
    rw [← Array.getElem?_eq_getElem, Array.getElem?_extract, ← Array.getElem?_eq_getElem]
    rw [if_pos (by rw [hl]; omega)]
    have : i = 0 ∨ i = 1 := by omega
    rcases this with rfl | rfl
    · simpa [secC] using h.1
    · simpa [secC] using h.2
theorem load_sects {w : World} {p b bi : Nat} {U Z : Nat → Int} {I : Nat → Bool} {L : List Int} (h : RPool w p b bi U Z I L) : (loadVar 83 ⟨p, 1025, none⟩).run Try.prog w = .ok (.agg (secC Z I)) w := by
  refine run_loadVar_at w p 1025 _ _ _ (fun j v hv => ?_) Try.underlying83 rfl (by rw [secC_size]; kernel_rfl)
  have hj : j < 64 := by have := (Array.getElem?_eq_some_iff.1 hv).1; rwa [secC_size] at this
  have hs := secL_at Z I 32 (j / 2) (by omega)
  have hv' : (secL Z I 32)[j]? = some v := by simpa [secC] using hv
  by_cases c : j % 2 = 0
  · rw [show j = j / 2 * 2 from by omega] at hv' ⊢
    rw [h.zone (j / 2) (by omega), ← hv', hs.1]
  · rw [show j = j / 2 * 2 + 1 from by omega] at hv' ⊢
    rw [← Nat.add_assoc, h.iso (j / 2) (by omega), ← hv', hs.2]
theorem index_sects (Z : Nat → Int) (I : Nat → Bool) (s : Nat) (hs : s < 32) (w : World) : (Instr.index 83 (.agg (secC Z I)) (.int .i64 s)).run Try.prog w = .ok (.agg #[.int .i64 (Z s), .bool (I s)]) w := by
  have := run_index_agg (P := Try.prog) w 83 82 32 (secC Z I) s hs Try.underlying83 _ Try.underlying82 rfl 2 (by kernel_rfl)
  rw [this, secC_at Z I s hs]
theorem spec_none {L : List Int} {s : Nat} {fr tt : Int} {f : Nat} (h : RunSpec L s fr tt f false) : ∀ g, ¬ IsRun L s fr tt g := by
  rcases h with ⟨h, _⟩ | ⟨_, _, h⟩
  · cases h
  · exact h
/-- of a section's frames, none of a run of an order may be given -/
def NoRun (U Z : Nat → Int) (I : Nat → Bool) (z : Int) (s k : Nat) : Prop := Z k = z → I k = false → ∀ g, ¬ IsRun (freeL U) s ((k : Int) * 32) (((k : Int) + 1) * 32) g
def PRunPost (U Z : Nat → Int) (I : Nat → Bool) (z : Int) (s : Nat) (w : World) (e : Ending) (w' : World) : Prop :=
  ∃ (f : Nat) (ok : Bool), e = .returned (.tuple #[.int .i64 f, .bool ok]) ∧ Chg NoB w w' ∧
    ((ok = true ∧ ∃ k, k < 32 ∧ Z k = z ∧ I k = false ∧ RunSpec (freeL U) s ((k : Int) * 32) (((k : Int) + 1) * 32) f true ∧ ∀ j, j < k → NoRun U Z I z s j) ∨
     (ok = false ∧ f = 0 ∧ ∀ j, j < 32 → NoRun U Z I z s j))
def PRunRel (U Z : Nat → Int) (I : Nat → Bool) (z : Int) (s : Nat) (w : World) (i : Value) (wr : World) : Prop :=
  ∃ k : Nat, k ≤ 32 ∧ i = .int .i64 k ∧ Chg NoB w wr ∧ ∀ j, j < k → NoRun U Z I z s j
set_option maxHeartbeats 2000000 in
theorem prun_any (p b bi : Nat) (U Z : Nat → Int) (I : Nat → Bool) (o : Nat) (ho : o ≤ 5) (zone : Int) (w : World) (h : PoolAt w p b bi U Z I) :
    Calls Try.prog 62 #[.pointer (some ⟨p, 0, none⟩), .int .i64 o, .int .i64 zone] w (PRunPost U Z I zone (2 ^ o) w) := by
  have hld := load_sects h
  have hix := index_sects Z I
  have H := Lib.hid h
  clear h
  generalize secC Z I = CC at hld hix
  go_enter Try.func62, Try.ntmps62
  go_wp2_with (with_reducible refine load_at rfl 83 _ rfl ⟨p, 1025, none⟩ rfl _ hld ?_)
  clear hld
  go_loopw [18] (fun i wr => PRunRel U Z I zone (2 ^ o) w i wr) (fun i wr => (32 - intOf i).toNat)
  case atStart => exact ⟨0, by omega, rfl, Chg.refl _ _, fun j hj => by omega⟩
  case round =>
    obtain ⟨k, hk, rfl, hC, hno⟩ := hrel
    by_cases hlt : k < 32
    · have nx : ∀ w', Chg NoB w w' → NoRun U Z I zone (2 ^ o) k → PRunRel U Z I zone (2 ^ o) w (.int .i64 ((k : Int) + 1)) w' := by
        intro w' hc hn
        refine ⟨k + 1, by omega, rfl, hc, fun j hj => ?_⟩
        by_cases e : j = k
        · subst e; exact hn
        · exact hno j (by omega)
      have fo : ∀ w' f, Chg NoB w w' → Z k = zone → I k = false → RunSpec (freeL U) (2 ^ o) ((k : Int) * 32) (((k : Int) + 1) * 32) f true → PRunPost U Z I zone (2 ^ o) w (.returned (.tuple #[.int .i64 f, .bool true])) w' :=
        fun w' f hc hz hi hr => ⟨f, true, rfl, hc, .inl ⟨rfl, k, hlt, hz, hi, hr, hno⟩⟩
      have NX := Lib.hid nx
      have FO := Lib.hid fo
      have HC := Lib.hid hC
      have hx := fun w => hix k hlt w
      clear nx fo hno hix hC
      by_cases hz : Z k = zone
      · have hb : (Z k != zone) = false := by rw [hz]; simp
        by_cases hi : I k = true
        · have N := NX.out _ (HC.out.alloc (.cells #[.int .i64 (Z k), .bool (I k)] 82)) (fun _ hh => by rw [hi] at hh; cases hh)
          have NZ := Lib.hid N
          clear N hz NX FO HC
          rw [hi] at hx NZ
          generalize Z k = z at *
          go_wp2_with (with_reducible refine index_at rfl 83 _ _ rfl (.agg CC) (.int .i64 k) _ rfl rfl (hx _) ?_)
          go_roundw
          case rel => exact NZ.out
          case measure => simp [intOf]; omega
        · have hi' : I k = false := by simpa using hi
          have hP := (H.out).chg (HC.out.alloc (.cells #[.int .i64 (Z k), .bool (I k)] 82)) (fun x => x) (fun x => x) (fun x => x)
          have hst := hP.set
          have N := NX.out
          have F := fun w' f hc => FO.out w' f hc hz hi'
          have R := run_yes b bi _ o ho ((k : Int) * 32) (((k : Int) + 1) * 32) _ hP.fr
          have hfr := frames_in k hlt (wr.alloc (.cells #[.int .i64 (Z k), .bool (I k)] 82))
          have NO : (∀ g, ¬ IsRun (freeL U) (2 ^ o) ((k : Int) * 32) (((k : Int) + 1) * 32) g) → NoRun U Z I zone (2 ^ o) k := fun hh _ _ => hh
          have CW := HC.out.alloc (.cells #[.int .i64 (Z k), .bool (I k)] 82)
          rw [hi'] at hx hst R hfr CW
          have N1 := Lib.hid (And.intro N (And.intro F (And.intro NO CW)))
          clear N F NO CW hP hi hi' hz NX FO HC
          generalize Z k = z at *
          go_wp2_with (with_reducible refine index_at rfl 83 _ _ rfl (.agg CC) (.int .i64 k) _ rfl rfl (hx _) ?_)
          refine hfr.mono ?_
          rintro e w3 ⟨rfl, rfl⟩
          clear hfr
          go_wp2_with fail
          refine R.mono ?_
          rintro e w4 ⟨f, ok, rfl, hr, hc4⟩
          clear R hst
          cases ok with
          | true =>
            have F := N1.out.2.1 w4 f (N1.out.2.2.2.trans hc4 (fun i _ hh => hh)) hr
            clear hr N1
            go_wp2_with fail
            go_ret2
            exact F
          | false =>
            have G := N1.out.1 w4 (N1.out.2.2.2.trans hc4 (fun i _ hh => hh)) (N1.out.2.2.1 (spec_none hr))
            clear hr N1
            go_wp2_with fail
            go_roundw
            case rel => exact G
            case measure => simp [intOf]; omega
      · have hb : (Z k != zone) = true := by rw [bne_iff_ne]; exact hz
        have N := NX.out _ (HC.out.alloc (.cells #[.int .i64 (Z k), .bool (I k)] 82)) (fun hh _ => absurd hh hz)
        have NZ := Lib.hid N
        clear N hz NX FO HC
        generalize Z k = z at *
        generalize I k = i at *
        go_wp2_with (with_reducible refine index_at rfl 83 _ _ rfl (.agg CC) (.int .i64 k) _ rfl rfl (hx _) ?_)
        go_roundw
        case rel => exact NZ.out
        case measure => simp [intOf]; omega
    · obtain rfl : k = 32 := by omega
      have post : PRunPost U Z I zone (2 ^ o) w (.returned (.tuple #[.int .i64 0, .bool false])) wr := ⟨0, false, rfl, hC, .inr ⟨rfl, rfl, hno⟩⟩
      clear hno hix
      go_wp2_with fail
      go_ret2
      exact post
end Go.Proofs.Ytimdojkhdneecaa.Pool
