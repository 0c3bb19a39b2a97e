/- A disk: Crash. -/
import Derived.Test.YtmonkoclbcahiaaFuse
import Derived.Test.YtmonkoclbcahiaaLoose
namespace Go.Proofs.Ytmonkoclbcahiaa.Disk
open Go.RowKit Go.Proofs.Ytmonkoclbcahiaa.Hp Go.Proofs.Ytmonkoclbcahiaa.By
set_option linter.unusedVariables false
set_option linter.unusedSimpArgs false
/-- is the j-th of what is loose kept? -/
def keptAt (keep : Int) (j : Nat) : Bool := decide (j < 64) && decide (keep / 2 ^ j % 2 = 1)
/-- which are sure after j of them were looked at, and which one is the last that is kept -/
def crashAt (keep : Int) (L : List Int) : Nat → (Nat → Bool) × Option Nat
  | 0 => (fun _ => false, none)
  | j + 1 =>
    let p := crashAt keep L j
    if keptAt keep j then ((match p.2 with | none => p.1 | some q => fun k => decide (k = q) || p.1 k), some (L.getD j 0).toNat) else p
def cut64 (t : Int) : Nat := (min (max t 0) 64).toNat
def DSt.crash (s : DSt) (keep torn : Int) : DSt :=
  let p := crashAt keep s.looseL s.looseL.length
  { n := s.n
    sure := fun k => if p.1 k then (s.loose k).getD (s.sure k) else if p.2 = some k then ((s.loose k).getD (s.sure k)).take (cut64 torn) ++ (s.sure k).drop (cut64 torn) else s.sure k
    loose := fun _ => none
    num := ⟨0, 0, -1, false⟩ }
def CrashPost (w : World) (d : Nat) (ρ : Nat → Nat) (s : DSt) (keep torn : Int) (e : Ending) (w' : World) : Prop :=
  ∃ ρ', e = .returned (.tuple #[]) ∧ DiskAt w' d ρ' (s.crash keep torn) ∧ Chg (Own ρ) w w' ∧ ∀ i, ρ' i ≠ 0 ↔ ρ i ≠ 0
theorem looseL_x (s : DSt) (j : Nat) (hj : j < s.looseL.length) : ∃ k : Nat, s.looseL.getD j 0 = k ∧ k < s.n ∧ (s.loose k).isSome = true := by
  have hm : s.looseL.getD j 0 ∈ s.looseL := by rw [List.getD_eq_getElem?_getD, List.getElem?_eq_getElem hj]; exact List.getElem_mem hj
  obtain ⟨a, b, c⟩ := (looseL_mem s _).mp hm
  exact ⟨(s.looseL.getD j 0).toNat, by omega, b, c⟩
theorem looseL_up (s : DSt) (i j : Nat) (h : i < j) (hj : j < s.looseL.length) : s.looseL.getD i 0 < s.looseL.getD j 0 := by
  obtain ⟨h1, h2⟩ := looseL_sorted s
  have hi : i < s.looseL.length := by omega
  have a := List.pairwise_iff_getElem.mp h1 i j hi hj h
  have b := List.pairwise_iff_getElem.mp (List.nodup_iff_pairwise_ne.mp h2) i j hi hj h
  rw [List.getD_eq_getElem?_getD, List.getD_eq_getElem?_getD, List.getElem?_eq_getElem hi, List.getElem?_eq_getElem hj]
  simp only [Option.getD_some]
  omega
/-- what holds of it on the way -/
def CA (s : DSt) (p : (Nat → Bool) × Option Nat) (j : Nat) : Prop :=
  (∀ k, p.1 k = true → (s.loose k).isSome = true ∧ ∃ q, p.2 = some q ∧ k < q) ∧ (∀ q, p.2 = some q → (s.loose q).isSome = true ∧ q < s.n ∧ ∀ i, j ≤ i → i < s.looseL.length → (q : Int) < s.looseL.getD i 0)
theorem crashAt_ca (keep : Int) (s : DSt) : ∀ j, j ≤ s.looseL.length → CA s (crashAt keep s.looseL j) j
  | 0, _ => ⟨fun k h => absurd (show false = true from h) (by simp), fun q h => absurd (show (none : Option Nat) = some q from h) (by simp)⟩
  | j + 1, hj => by
    have ih := crashAt_ca keep s j (by omega)
    show CA s (if keptAt keep j then _ else _) _
    by_cases c : keptAt keep j = true
    · rw [if_pos c]
      obtain ⟨x, hx, hx1, hx2⟩ := looseL_x s j (by omega)
      rw [hx, Int.toNat_natCast]
      refine ⟨fun k hk => ?_, fun q hq => ?_⟩
      · cases hl : (crashAt keep s.looseL j).2 with
        | none =>
          rw [hl] at hk
          obtain ⟨_, q, e, _⟩ := ih.1 k hk
          rw [hl] at e; cases e
        | some q =>
          rw [hl] at hk
          have hk' : (decide (k = q) || (crashAt keep s.looseL j).1 k) = true := hk
          obtain ⟨b1, b2, b3⟩ := ih.2 q hl
          have b4 := b3 j (Nat.le_refl _) (by omega)
          rw [hx] at b4
          rcases Bool.or_eq_true _ _ |>.mp hk' with e | e
          · obtain rfl := of_decide_eq_true e
            exact ⟨b1, x, rfl, by omega⟩
          · obtain ⟨a1, q', e', a2⟩ := ih.1 k e
            rw [hl] at e'
            obtain rfl := Option.some.inj e'
            exact ⟨a1, x, rfl, by omega⟩
      · obtain rfl := Option.some.inj (show some x = some q from hq)
        refine ⟨hx2, hx1, fun i hi hi2 => ?_⟩
        have := looseL_up s j i (by omega) hi2
        rw [hx] at this
        exact this
    · rw [if_neg c]
      exact ⟨ih.1, fun q hq => by
        obtain ⟨a, b, c⟩ := ih.2 q hq
        exact ⟨a, b, fun i hi hi2 => c i (by omega) hi2⟩⟩
def lastV : Option Nat → Value
  | none => .int .i64 (-1)
  | some q => .int .i64 q
/-- the loop of Crash, under way -/
def CrR (w1 : World) (s : DSt) (sv : Nat) (SV LV : Nat → Value) (p : (Nat → Bool) × Option Nat) (last : Value) (wr : World) : Prop :=
  last = lastV p.2 ∧ ∃ C, Blk wr sv C 31 ∧ (∀ i, i < s.n → C[i]? = some (if p.1 i = true then LV i else SV i)) ∧ Chg (· = sv) w1 wr
theorem crash_skip {keep : Int} {L : List Int} {j : Nat} (h : keptAt keep j = false) : crashAt keep L (j + 1) = crashAt keep L j := by
  show (if keptAt keep j then _ else _) = _
  rw [h]; rfl
theorem crash_kept {keep : Int} {L : List Int} {j : Nat} (h : keptAt keep j = true) : crashAt keep L (j + 1) = ((match (crashAt keep L j).2 with | none => (crashAt keep L j).1 | some q => fun k => decide (k = q) || (crashAt keep L j).1 k), some (L.getD j 0).toNat) := by
  show (if keptAt keep j then _ else _) = _
  rw [h]; rfl
theorem CrR.first {w1 wr : World} {s : DSt} {sv : Nat} {SV LV : Nat → Value} {keep : Int} {j : Nat} {last : Value} (h : CrR w1 s sv SV LV (crashAt keep s.looseL j) last wr) (hk : keptAt keep j = true) (hj : j < s.looseL.length) (hn : (crashAt keep s.looseL j).2 = none) : CrR w1 s sv SV LV (crashAt keep s.looseL (j + 1)) (.int .i64 (s.looseL.getD j 0)) wr := by
  obtain ⟨x, hx, _⟩ := looseL_x s j hj
  obtain ⟨_, C, h1, h2, h3⟩ := h
  rw [crash_kept hk, hn]
  refine ⟨?_, C, h1, h2, h3⟩
  show _ = Value.int .i64 ((s.looseL.getD j 0).toNat : Int)
  rw [hx, Int.toNat_natCast]
theorem CrR.next {w1 wr : World} {s : DSt} {sv : Nat} {SV LV : Nat → Value} {keep : Int} {j q : Nat} {last : Value} (h : CrR w1 s sv SV LV (crashAt keep s.looseL j) last wr) (hk : keptAt keep j = true) (hj : j < s.looseL.length) (hn : (crashAt keep s.looseL j).2 = some q) : CrR w1 s sv SV LV (crashAt keep s.looseL (j + 1)) (.int .i64 (s.looseL.getD j 0)) (wr.setCell ⟨sv, q, none⟩ (LV q)) := by
  obtain ⟨x, hx, _⟩ := looseL_x s j hj
  obtain ⟨_, C, h1, h2, h3⟩ := h
  rw [crash_kept hk, hn]
  refine ⟨?_, _, bset h1 q (LV q), fun i hi => ?_, Chg.set (S := (· = sv)) h3 (p := ⟨sv, q, none⟩) (.inl rfl) _⟩
  · show _ = Value.int .i64 ((s.looseL.getD j 0).toNat : Int)
    rw [hx, Int.toNat_natCast]
  · show _ = some (if (decide (i = q) || (crashAt keep s.looseL j).1 i) = true then LV i else SV i)
    rw [Array.getElem?_setIfInBounds]
    by_cases e : q = i
    · subst e
      have : q < C.size := (Array.getElem?_eq_some_iff.1 (h2 q hi)).1
      rw [if_pos rfl, if_pos this]
      simp
    · rw [if_neg e, h2 i hi]
      have e' : decide (i = q) = false := decide_eq_false (fun x => e x.symm)
      rw [e', Bool.false_or]
/-- all is sure that is to be -/
theorem DP.crash {w1 w3 : World} {d : Nat} {ρ : Nat → Nat} {s : DSt} {sv mb cap : Nat} {SV : Nat → Value} {SB : Nat → Nat} {LV : Nat → Value} {LB : Nat → Nat} (h : DP w1 d ρ s sv mb cap SV SB LV LB) (keep torn : Int)
    (hc : Chg (Own ρ) w1 w3) (hb : DB w3 d (.slice (some ⟨sv, 0, none⟩) s.n cap) (.map (some mb)) ⟨0, 0, -1, false⟩)
    (C : Array Value) (hC : Blk w3 sv C 31) (hS : ∀ i, i < s.n → C[i]? = some (if (crashAt keep s.looseL s.looseL.length).1 i = true then LV i else SV i)) (hm : MapAt w3 mb (fun _ => none))
    (hR : ∀ i, i < s.n → Row w3 (if (crashAt keep s.looseL s.looseL.length).1 i = true then LV i else SV i) (if (crashAt keep s.looseL s.looseL.length).1 i = true then LB i else SB i) ((s.crash keep torn).sure i)) :
    DP w3 d (fun i => if 5 ≤ ρ i ∧ ρ i % 2 = 1 then ρ i - 1 else ρ i) (s.crash keep torn) sv mb cap (fun i => if (crashAt keep s.looseL s.looseL.length).1 i = true then LV i else SV i) (fun i => if (crashAt keep s.looseL s.looseL.length).1 i = true then LB i else SB i) LV LB := by
  have ca := crashAt_ca keep s s.looseL.length (Nat.le_refl _)
  refine ⟨hb, by unfold DN.ok DSt.crash; simp, h.n1, h.n2, h.nc, ⟨C, hC, hS⟩, hR, ?_, fun k l hk => absurd (show (none : Option (List Int)) = some l from hk) (by simp), ?_, ?_, ?_, fun i hi => ?_, fun k l hk => absurd (show (none : Option (List Int)) = some l from hk) (by simp), fun i hi => ?_⟩
  · rw [show looseM (s.crash keep torn) LV = fun _ => none by funext k; unfold looseM DSt.crash; split <;> rfl]
    exact hm
  · show (if 5 ≤ ρ d ∧ ρ d % 2 = 1 then ρ d - 1 else ρ d) = 1
    rw [h.r1]; decide
  · show (if 5 ≤ ρ sv ∧ ρ sv % 2 = 1 then ρ sv - 1 else ρ sv) = 2
    rw [h.r2]; decide
  · show (if 5 ≤ ρ mb ∧ ρ mb % 2 = 1 then ρ mb - 1 else ρ mb) = 3
    rw [h.r3]; decide
  · show (if 5 ≤ ρ (if (crashAt keep s.looseL s.looseL.length).1 i = true then LB i else SB i) ∧ ρ (if (crashAt keep s.looseL s.looseL.length).1 i = true then LB i else SB i) % 2 = 1 then ρ (if (crashAt keep s.looseL s.looseL.length).1 i = true then LB i else SB i) - 1 else ρ (if (crashAt keep s.looseL s.looseL.length).1 i = true then LB i else SB i)) = 4 + 2 * i
    by_cases c : (crashAt keep s.looseL s.looseL.length).1 i = true
    · obtain ⟨a, _⟩ := ca.1 i c
      cases hl : s.loose i with
      | none => rw [hl] at a; cases a
      | some l =>
        have h5 := h.r5 i l hl
        rw [if_pos c, if_pos (by omega)]; omega
    · have h4 := h.r4 i hi
      rw [if_neg c, if_neg (by omega)]; exact h4
  · show (if 5 ≤ ρ i ∧ ρ i % 2 = 1 then ρ i - 1 else ρ i) = 0
    rw [h.rz i (by have := hc.size; omega)]; decide
end Go.Proofs.Ytmonkoclbcahiaa.Disk
