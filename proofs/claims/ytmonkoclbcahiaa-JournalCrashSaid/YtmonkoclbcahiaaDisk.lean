/- A disk: its numbers; work. -/
import Derived.Test.YtmonkoclbcahiaaBytes
import Derived.Test.YtmonkoclbcahiaaMap
namespace Go.Proofs.Ytmonkoclbcahiaa.Disk
open Go.RowKit Go.Proofs.Ytmonkoclbcahiaa.Hp Go.Proofs.Ytmonkoclbcahiaa.By
set_option linter.unusedVariables false
set_option linter.unusedSimpArgs false
/-- how much work is done first, how much is not then, how much till the power is gone, is it gone -/
structure DN where
  first : Int
  fail : Int
  fuse : Int
  down : Bool
def DN.ok (n : DN) : Prop := (0 ≤ n.first ∧ n.first ≤ 9223372036854775807) ∧ (0 ≤ n.fail ∧ n.fail ≤ 9223372036854775807) ∧ (-1 ≤ n.fuse ∧ n.fuse ≤ 9223372036854775807)
def DN.work (n : DN) : DN × Int :=
  if n.down = true ∨ n.fuse = 0 then ({ n with down := true }, 9)
  else
    let m : DN := if 0 < n.fuse then { n with fuse := n.fuse - 1 } else n
    if 0 < n.first then ({ m with first := n.first - 1 }, 0) else if 0 < n.fail then ({ m with fail := n.fail - 1 }, 6) else (m, 0)
theorem DN.work_ok {n : DN} (h : n.ok) : n.work.1.ok := by
  unfold DN.ok at *
  unfold DN.work
  split
  · exact h
  · split
    · split
      · simp only; omega
      · split
        · simp only; omega
        · simp only; omega
    · split
      · simp only; omega
      · split
        · simp only; omega
        · exact h
/-- the disk's struct: its sectors, what is loose, its numbers -/
abbrev DB (w : World) (d : Nat) (A B : Value) (n : DN) : Prop := Blk w d #[A, B, .int .i64 n.first, .int .i64 n.fail, .int .i64 n.fuse, .bool n.down] 76
theorem six {w : World} {g : Nat} {a b c d e f : Value} {T : TypeId} (h : Blk w g #[a, b, c, d, e, f] T) : w.cell? ⟨g, 0, none⟩ = some a ∧ w.cell? ⟨g, 1, none⟩ = some b ∧ w.cell? ⟨g, 2, none⟩ = some c ∧ w.cell? ⟨g, 3, none⟩ = some d ∧ w.cell? ⟨g, 4, none⟩ = some e ∧ w.cell? ⟨g, 5, none⟩ = some f :=
  ⟨bcell h 0, bcell h 1, bcell h 2, bcell h 3, bcell h 4, bcell h 5⟩
def WorkPost (w : World) (d : Nat) (A B : Value) (n : DN) (e : Ending) (w' : World) : Prop := e = .returned (.int .i64 n.work.2) ∧ DB w' d A B n.work.1 ∧ Chg (· = d) w w'
theorem chg1 (w : World) (d i : Nat) (v : Value) : Chg (· = d) w (w.setCell ⟨d, i, none⟩ v) := Chg.set (S := (· = d)) (Chg.refl _ w) (p := ⟨d, i, none⟩) (.inl rfl) v
theorem chg2 {w w1 : World} {d : Nat} (h : Chg (· = d) w w1) (i : Nat) (v : Value) : Chg (· = d) w (w1.setCell ⟨d, i, none⟩ v) := Chg.set (S := (· = d)) h (p := ⟨d, i, none⟩) (.inl rfl) v
set_option maxHeartbeats 2000000 in
theorem work_any (d : Nat) (A B : Value) (n : DN) (w : World) (h : DB w d A B n) (hn : n.ok) : Calls Try.prog 39 #[.pointer (some ⟨d, 0, none⟩)] w (WorkPost w d A B n) := by
  obtain ⟨fi, fa, fu, dn⟩ := n
  obtain ⟨⟨a1, a2⟩, ⟨b1, b2⟩, ⟨c1, c2⟩⟩ := hn
  simp only at a1 a2 b1 b2 c1 c2
  obtain ⟨k0, k1, k2, k3, k4, k5⟩ := six h
  simp only at k2 k3 k4 k5
  have hf := bfroz h
  have fin : ∀ m E w', (DN.work ⟨fi, fa, fu, dn⟩) = (m, E) → DB w' d A B m → Chg (· = d) w w' → WorkPost w d A B ⟨fi, fa, fu, dn⟩ (.returned (.int .i64 E)) w' := by
    intro m E w' e1 e2 e3
    refine ⟨by rw [e1], by rw [e1]; exact e2, e3⟩
  have w5 : DB (w.setCell ⟨d, 5, none⟩ (.bool true)) d A B ⟨fi, fa, fu, true⟩ := bset h 5 _
  have w4 : DB (w.setCell ⟨d, 4, none⟩ (.int .i64 (fu - 1))) d A B ⟨fi, fa, fu - 1, dn⟩ := bset h 4 _
  have w42 : DB ((w.setCell ⟨d, 4, none⟩ (.int .i64 (fu - 1))).setCell ⟨d, 2, none⟩ (.int .i64 (fi - 1))) d A B ⟨fi - 1, fa, fu - 1, dn⟩ := bset w4 2 _
  have w43 : DB ((w.setCell ⟨d, 4, none⟩ (.int .i64 (fu - 1))).setCell ⟨d, 3, none⟩ (.int .i64 (fa - 1))) d A B ⟨fi, fa - 1, fu - 1, dn⟩ := bset w4 3 _
  have w2 : DB (w.setCell ⟨d, 2, none⟩ (.int .i64 (fi - 1))) d A B ⟨fi - 1, fa, fu, dn⟩ := bset h 2 _
  have w3 : DB (w.setCell ⟨d, 3, none⟩ (.int .i64 (fa - 1))) d A B ⟨fi, fa - 1, fu, dn⟩ := bset h 3 _
  by_cases z : fu = 0
  · subst z
    have post := fin ⟨fi, fa, 0, true⟩ 9 _ (by unfold DN.work; rw [if_pos (.inr rfl)]) w5 (chg1 _ _ _ _)
    clear fin w5 w4 w42 w43 w2 w3 h
    go_enter Try.func39, Try.ntmps39
    go_wp2_with fail
    go_ret
    exact post
  have zb : (fu == 0) = false := beq_eq_false_iff_ne.mpr z
  cases dn with
  | true =>
    have post := fin ⟨fi, fa, fu, true⟩ 9 w (by unfold DN.work; rw [if_pos (.inl rfl)]) h (Chg.refl _ _)
    clear fin w5 w4 w42 w43 w2 w3 h z
    go_enter Try.func39, Try.ntmps39
    go_wp2_with fail
    go_ret
    exact post
  | false =>
    have ng : ¬ ((false : Bool) = true ∨ fu = 0) := fun x => x.elim (by decide) z
    by_cases p : 0 < fu
    · by_cases q : 0 < fi
      · have post := fin ⟨fi - 1, fa, fu - 1, false⟩ 0 _ (by unfold DN.work; rw [if_neg ng]; simp only [if_pos p, if_pos q]) w42 (chg2 (chg1 _ _ _ _) _ _)
        clear fin w5 w4 w42 w43 w2 w3 h z ng
        go_enter Try.func39, Try.ntmps39
        go_wp2_with fail
        go_ret
        exact post
      · by_cases r : 0 < fa
        · have post := fin ⟨fi, fa - 1, fu - 1, false⟩ 6 _ (by unfold DN.work; rw [if_neg ng]; simp only [if_pos p, if_neg q, if_pos r]) w43 (chg2 (chg1 _ _ _ _) _ _)
          clear fin w5 w4 w42 w43 w2 w3 h z ng
          go_enter Try.func39, Try.ntmps39
          go_wp2_with fail
          go_ret
          exact post
        · have post := fin ⟨fi, fa, fu - 1, false⟩ 0 _ (by unfold DN.work; rw [if_neg ng]; simp only [if_pos p, if_neg q, if_neg r]) w4 (chg1 _ _ _ _)
          clear fin w5 w4 w42 w43 w2 w3 h z ng
          go_enter Try.func39, Try.ntmps39
          go_wp2_with fail
          go_ret
          exact post
    · by_cases q : 0 < fi
      · have post := fin ⟨fi - 1, fa, fu, false⟩ 0 _ (by unfold DN.work; rw [if_neg ng]; simp only [if_neg p, if_pos q]) w2 (chg1 _ _ _ _)
        clear fin w5 w4 w42 w43 w2 w3 h z ng
        go_enter Try.func39, Try.ntmps39
        go_wp2_with fail
        go_ret
        exact post
      · by_cases r : 0 < fa
        · have post := fin ⟨fi, fa - 1, fu, false⟩ 6 _ (by unfold DN.work; rw [if_neg ng]; simp only [if_neg p, if_neg q, if_pos r]) w3 (chg1 _ _ _ _)
          clear fin w5 w4 w42 w43 w2 w3 h z ng
          go_enter Try.func39, Try.ntmps39
          go_wp2_with fail
          go_ret
          exact post
        · have post := fin ⟨fi, fa, fu, false⟩ 0 w (by unfold DN.work; rw [if_neg ng]; simp only [if_neg p, if_neg q, if_neg r]) h (Chg.refl _ _)
          clear fin w5 w4 w42 w43 w2 w3 h z ng
          go_enter Try.func39, Try.ntmps39
          go_wp2_with fail
          go_ret
          exact post
end Go.Proofs.Ytmonkoclbcahiaa.Disk
