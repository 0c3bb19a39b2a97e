/- An act, to both. -/
import Derived.Test.YtlhlnkfmmklkbaaPoolX
import Derived.Deep.RegionHeld3
namespace Go.Proofs.Ytlhlnkfmmklkbaa.Pool
open Go.RowKit Go.Proofs.Ytlhlnkfmmklkbaa.Hp Go.Proofs.Ytlhlnkfmmklkbaa.Runs
set_option linter.unusedVariables false
set_option linter.unusedSimpArgs false
theorem box5 {w : World} {g : Nat} {a b c d e : Value} {T : TypeId} (h : Blk w g #[a, b, c, d, e] T) : w.cell? ⟨g, 0, none⟩ = some a ∧ w.cell? ⟨g, 1, none⟩ = some b ∧ w.cell? ⟨g, 2, none⟩ = some c ∧ w.cell? ⟨g, 3, none⟩ = some d ∧ w.cell? ⟨g, 4, none⟩ = some e :=
  ⟨bcell h 0, bcell h 1, bcell h 2, bcell h 3, bcell h 4⟩
/-- what an act answers, and what both pools are behind it -/
def DoPost (w0 : World) (p b bi v : Nat) (S' : PS) (e : Ending) (w' : World) : Prop := e = .returned (.bool true) ∧ Both w0 w' p b bi v S' S'
theorem used_any (u : Int) (w : World) : Calls Try.prog 53 #[.int .i64 u] w fun e w' => e = .returned (.bool (decide (2 ≤ u ∧ u ≤ 5))) ∧ w' = w := by
  by_cases h1 : 2 ≤ u
  · by_cases h2 : u ≤ 5
    · rw [decide_eq_true ⟨h1, h2⟩]
      go_enter Try.func53, Try.ntmps53
      go_wp2
      go_ret
      exact ⟨rfl, rfl⟩
    · rw [decide_eq_false (fun x => h2 x.2)]
      go_enter Try.func53, Try.ntmps53
      go_wp2
      go_ret
      exact ⟨rfl, rfl⟩
  · rw [decide_eq_false (fun x => h1 x.1)]
    go_enter Try.func53, Try.ntmps53
    go_wp2
    go_ret
    exact ⟨rfl, rfl⟩
set_option maxRecDepth 100000 in
set_option maxHeartbeats 4000000 in
theorem do_online (w0 w : World) (p b bi v : Nat) (S : PS) (a z : Int) (on : Bool) (A : Option Addr) (c : Nat) (bad : List Int) (h : Both w0 w p b bi v S S) (hF : Rd w .i64 A bad) (ho : 0 < bad.length → Off A (fun i => w0.heap.size ≤ i)) :
    Calls Try.prog 34 #[.pointer (some ⟨p, 0, none⟩), .pointer (some ⟨v, 0, none⟩), .agg #[.int .i64 0, .int .i64 a, .int .i64 z, .bool on, .slice A bad.length c]] w (DoPost w0 p b bi v (S.online a z bad)) := by
  have C1 := (Chg.refl NoB w).alloc (.cells #[.int .i64 0, .int .i64 a, .int .i64 z, .bool on, .slice A bad.length c] 61)
  have hB := h.keep C1
  have hbx : Blk (w.alloc (.cells #[.int .i64 0, .int .i64 a, .int .i64 z, .bool on, .slice A bad.length c] 61)) w.heap.size _ _ := bnew w _
  have g1 : w.heap.size ≠ p ∧ w.heap.size ≠ bi ∧ w.heap.size ≠ v := by
    obtain ⟨C, h3, _⟩ := h.pl.at_.st
    have := blt h3
    have := blt h.pl.at_.fr.xs
    have := h.rr.lt
    omega
  have hF1 := hF.chg C1 (fun _ ad _ x => x)
  have H := Lib.hid (And.intro hB (And.intro hbx (And.intro g1 (And.intro hF1 ho))))
  clear h hF ho C1 hB hbx g1 hF1
  by_cases ha : 0 ≤ a
  all_goals
    go_enter Try.func34, Try.ntmps34
    go_wp2_with fail
    generalize w.alloc (.cells #[.int .i64 0, .int .i64 a, .int .i64 z, .bool on, .slice A bad.length c] 61) = W at *
    generalize w.heap.size = g at *
    obtain ⟨hB, hbx, ⟨g1, g2, g3⟩, hF, ho⟩ := H.out
    obtain ⟨k0, k1, k2, k3, k4⟩ := box5 hbx
    have HBd := Lib.hid (hB.keep ((Chg.refl NoB W).drew))
    have HFd := Lib.hid (And.intro (hF.chg ((Chg.refl NoB W).drew) (fun _ ad _ x => x)) ho)
    have hO : 0 < bad.length → Off A (fun i => i = p ∨ i = bi ∨ i = v) := fun hh ad e x => ho hh ad e (by
      rcases x with x | x | x
      · rw [x]; exact hB.pl.lp
      · rw [x]; exact hB.pl.li
      · rw [x]; exact hB.lv)
    have HO := Lib.hid hO
    clear hO
    clear H hB hbx hF ho
    have keep3 : ∀ Wa Wb : World, Chg (fun i => i = p ∨ i = bi ∨ i = v) Wa Wb → ∀ (j : Nat) (x : Value), Wa.cell? ⟨g, j, none⟩ = some x → Wb.cell? ⟨g, j, none⟩ = some x := fun Wa Wb hc j x hx => hc.cell hx (fun e => e.elim g1 (fun e => e.elim g2 g3))
    have K3 := Lib.hid keep3
    clear keep3
    go_region_held3 (fun w' => w'.cell? ⟨g, 1, none⟩ = some (.int .i64 a) ∧ w'.cell? ⟨g, 2, none⟩ = some (.int .i64 z) ∧ w'.cell? ⟨g, 4, none⟩ = some (.slice A bad.length c))
      (first
        | go_keep
        | (go_split_ands
           refine ⟨?_, ?_, ?_⟩
           · exact K3.out _ _ hC2 _ _ (by assumption)
           · exact K3.out _ _ hC2 _ _ (by assumption)
           · exact K3.out _ _ hC2 _ _ (by assumption))
        | (go_split_ands
           refine ⟨?_, ?_, ?_⟩
           · exact K3.out _ _ hC1 _ _ (by assumption)
           · exact K3.out _ _ hC1 _ _ (by assumption)
           · exact K3.out _ _ hC1 _ _ (by assumption)))
      (first
        | (go_at_call 24; ((with_reducible refine (bp_online a z A c bad HBd.out HFd.out.1 HFd.out.2).mono ?_); rintro e w1 ⟨rfl, hB1, hC1⟩))
        | (go_at_call 50; ((with_reducible refine (br_online a z A c bad HBd.out HFd.out.1 HFd.out.2).mono ?_); rintro e w1 ⟨rfl, hB1, hC1⟩))
        | (go_at_call 24; ((with_reducible refine (bp_online a z A c bad hB1 (HFd.out.1.chg hC1 HO.out) HFd.out.2).mono ?_); rintro e w2 ⟨rfl, hB2, hC2⟩))
        | (go_at_call 50; ((with_reducible refine (br_online a z A c bad hB1 (HFd.out.1.chg hC1 HO.out) HFd.out.2).mono ?_); rintro e w2 ⟨rfl, hB2, hC2⟩)))
    all_goals
      have post : DoPost w0 p b bi v (S.online a z bad) (.returned (.bool true)) w2 := ⟨rfl, hB2⟩
      clear hB1 hC1 hB2 hC2
      go_wp2_with fail
      go_ret
      exact post
set_option maxRecDepth 100000 in
set_option maxHeartbeats 4000000 in
theorem do_offline (w0 w : World) (p b bi v : Nat) (S : PS) (a z : Int) (on : Bool) (A : Option Addr) (c : Nat) (bad : List Int) (h : Both w0 w p b bi v S S) (hF : Rd w .i64 A bad) (ho : 0 < bad.length → Off A (fun i => w0.heap.size ≤ i)) :
    Calls Try.prog 34 #[.pointer (some ⟨p, 0, none⟩), .pointer (some ⟨v, 0, none⟩), .agg #[.int .i64 1, .int .i64 a, .int .i64 z, .bool on, .slice A bad.length c]] w (DoPost w0 p b bi v (S.offline a)) := by
  have C1 := (Chg.refl NoB w).alloc (.cells #[.int .i64 1, .int .i64 a, .int .i64 z, .bool on, .slice A bad.length c] 61)
  have hB := h.keep C1
  have hbx : Blk (w.alloc (.cells #[.int .i64 1, .int .i64 a, .int .i64 z, .bool on, .slice A bad.length c] 61)) w.heap.size _ _ := bnew w _
  have g1 : w.heap.size ≠ p ∧ w.heap.size ≠ bi ∧ w.heap.size ≠ v := by
    obtain ⟨C, h3, _⟩ := h.pl.at_.st
    have := blt h3
    have := blt h.pl.at_.fr.xs
    have := h.rr.lt
    omega
  have hF1 := hF.chg C1 (fun _ ad _ x => x)
  have H := Lib.hid (And.intro hB (And.intro hbx (And.intro g1 (And.intro hF1 ho))))
  clear h hF ho C1 hB hbx g1 hF1
  by_cases ha : 0 ≤ a
  all_goals
    go_enter Try.func34, Try.ntmps34
    go_wp2_with fail
    generalize w.alloc (.cells #[.int .i64 1, .int .i64 a, .int .i64 z, .bool on, .slice A bad.length c] 61) = W at *
    generalize w.heap.size = g at *
    obtain ⟨hB, hbx, ⟨g1, g2, g3⟩, hF, ho⟩ := H.out
    obtain ⟨k0, k1, k2, k3, k4⟩ := box5 hbx
    have HBd := Lib.hid (hB.keep ((Chg.refl NoB W).drew))
    have HFd := Lib.hid (And.intro (hF.chg ((Chg.refl NoB W).drew) (fun _ ad _ x => x)) ho)
    have hO : 0 < bad.length → Off A (fun i => i = p ∨ i = bi ∨ i = v) := fun hh ad e x => ho hh ad e (by
      rcases x with x | x | x
      · rw [x]; exact hB.pl.lp
      · rw [x]; exact hB.pl.li
      · rw [x]; exact hB.lv)
    have HO := Lib.hid hO
    clear hO
    clear H hB hbx hF ho
    have keep3 : ∀ Wa Wb : World, Chg (fun i => i = p ∨ i = bi ∨ i = v) Wa Wb → ∀ (j : Nat) (x : Value), Wa.cell? ⟨g, j, none⟩ = some x → Wb.cell? ⟨g, j, none⟩ = some x := fun Wa Wb hc j x hx => hc.cell hx (fun e => e.elim g1 (fun e => e.elim g2 g3))
    have K3 := Lib.hid keep3
    clear keep3
    go_region_held3 (fun w' => w'.cell? ⟨g, 1, none⟩ = some (.int .i64 a) ∧ w'.cell? ⟨g, 2, none⟩ = some (.int .i64 z) ∧ w'.cell? ⟨g, 4, none⟩ = some (.slice A bad.length c))
      (first
        | go_keep
        | (go_split_ands
           refine ⟨?_, ?_, ?_⟩
           · exact K3.out _ _ hC2 _ _ (by assumption)
           · exact K3.out _ _ hC2 _ _ (by assumption)
           · exact K3.out _ _ hC2 _ _ (by assumption))
        | (go_split_ands
           refine ⟨?_, ?_, ?_⟩
           · exact K3.out _ _ hC1 _ _ (by assumption)
           · exact K3.out _ _ hC1 _ _ (by assumption)
           · exact K3.out _ _ hC1 _ _ (by assumption)))
      (first
        | (go_at_call 32; ((with_reducible refine (bp_offline a HBd.out).mono ?_); rintro e w1 ⟨rfl, hB1, hC1⟩))
        | (go_at_call 51; ((with_reducible refine (br_offline a HBd.out).mono ?_); rintro e w1 ⟨rfl, hB1, hC1⟩))
        | (go_at_call 32; ((with_reducible refine (bp_offline a hB1).mono ?_); rintro e w2 ⟨rfl, hB2, hC2⟩))
        | (go_at_call 51; ((with_reducible refine (br_offline a hB1).mono ?_); rintro e w2 ⟨rfl, hB2, hC2⟩)))
    all_goals
      have post : DoPost w0 p b bi v (S.offline a) (.returned (.bool true)) w2 := ⟨rfl, hB2⟩
      clear hB1 hC1 hB2 hC2
      go_wp2_with fail
      go_ret
      exact post
set_option maxRecDepth 100000 in
set_option maxHeartbeats 4000000 in
theorem do_alloc (w0 w : World) (p b bi v : Nat) (S : PS) (a z : Int) (on : Bool) (A : Option Addr) (c : Nat) (bad : List Int) (h : Both w0 w p b bi v S S) (hF : Rd w .i64 A bad) (ho : 0 < bad.length → Off A (fun i => w0.heap.size ≤ i)) :
    Calls Try.prog 34 #[.pointer (some ⟨p, 0, none⟩), .pointer (some ⟨v, 0, none⟩), .agg #[.int .i64 2, .int .i64 a, .int .i64 z, .bool on, .slice A bad.length c]] w (DoPost w0 p b bi v (S.alloc a z on)) := by
  have C1 := (Chg.refl NoB w).alloc (.cells #[.int .i64 2, .int .i64 a, .int .i64 z, .bool on, .slice A bad.length c] 61)
  have hB := h.keep C1
  have hbx : Blk (w.alloc (.cells #[.int .i64 2, .int .i64 a, .int .i64 z, .bool on, .slice A bad.length c] 61)) w.heap.size _ _ := bnew w _
  have g1 : w.heap.size ≠ p ∧ w.heap.size ≠ bi ∧ w.heap.size ≠ v := by
    obtain ⟨C, h3, _⟩ := h.pl.at_.st
    have := blt h3
    have := blt h.pl.at_.fr.xs
    have := h.rr.lt
    omega
  have hF1 := hF.chg C1 (fun _ ad _ x => x)
  have H := Lib.hid (And.intro hB (And.intro hbx (And.intro g1 (And.intro hF1 ho))))
  clear h hF ho C1 hB hbx g1 hF1
  by_cases ha : 0 ≤ a
  all_goals
    go_enter Try.func34, Try.ntmps34
    go_wp2_with fail
    generalize w.alloc (.cells #[.int .i64 2, .int .i64 a, .int .i64 z, .bool on, .slice A bad.length c] 61) = W at *
    generalize w.heap.size = g at *
    obtain ⟨hB, hbx, ⟨g1, g2, g3⟩, hF, ho⟩ := H.out
    obtain ⟨k0, k1, k2, k3, k4⟩ := box5 hbx
    have hp := bp_alloc a z on hB
    have keep3 : ∀ Wa Wb : World, Chg (fun i => i = p ∨ i = bi ∨ i = v) Wa Wb → ∀ (j : Nat) (x : Value), Wa.cell? ⟨g, j, none⟩ = some x → Wb.cell? ⟨g, j, none⟩ = some x := fun Wa Wb hc j x hx => hc.cell hx (fun e => e.elim g1 (fun e => e.elim g2 g3))
    have K3 := Lib.hid keep3
    have SR := Lib.hid (fun w1 (h : Both w0 w1 p b bi v (S.alloc a z on) S) => br_alloc a z on h)
    clear keep3 H hB hbx hF ho
    generalize S.allocF a z on = x1 at *
    generalize S.allocE a z on = x2 at *
    generalize S.alloc a z on = S' at *
    refine hp.mono ?_
    rintro e w1 ⟨rfl, hB1, hC1⟩
    have m1 := K3.out _ _ hC1 _ _ k1
    have m2 := K3.out _ _ hC1 _ _ k2
    have m3 := K3.out _ _ hC1 _ _ k3
    have hr := SR.out w1 hB1
    clear hp hB1 hC1 SR k0 k1 k2 k3 k4 K3
    go_wp2_with fail
    refine hr.mono ?_
    rintro e w2 ⟨rfl, hB2, hC2⟩
    have post : DoPost w0 p b bi v S' (.returned (.bool true)) w2 := ⟨rfl, hB2⟩
    clear hr hB2 hC2 m1 m2 m3
    go_wp2_with fail
    go_ret
    exact post
set_option maxRecDepth 100000 in
set_option maxHeartbeats 4000000 in
theorem do_other (w0 w : World) (p b bi v : Nat) (S : PS) (what : Int) (h0 : (what == 0) = false) (h1 : (what == 1) = false) (h2 : (what == 2) = false) (h3 : (what == 3) = false) (h4 : (what == 4) = false) (h5 : (what == 5) = false) (a z : Int) (on : Bool) (A : Option Addr) (c : Nat) (bad : List Int) (h : Both w0 w p b bi v S S) (hF : Rd w .i64 A bad) (ho : 0 < bad.length → Off A (fun i => w0.heap.size ≤ i)) :
    Calls Try.prog 34 #[.pointer (some ⟨p, 0, none⟩), .pointer (some ⟨v, 0, none⟩), .agg #[.int .i64 what, .int .i64 a, .int .i64 z, .bool on, .slice A bad.length c]] w (DoPost w0 p b bi v S) := by
  have C1 := (Chg.refl NoB w).alloc (.cells #[.int .i64 what, .int .i64 a, .int .i64 z, .bool on, .slice A bad.length c] 61)
  have hB := h.keep C1
  have hbx : Blk (w.alloc (.cells #[.int .i64 what, .int .i64 a, .int .i64 z, .bool on, .slice A bad.length c] 61)) w.heap.size _ _ := bnew w _
  have g1 : w.heap.size ≠ p ∧ w.heap.size ≠ bi ∧ w.heap.size ≠ v := by
    obtain ⟨C, h3, _⟩ := h.pl.at_.st
    have := blt h3
    have := blt h.pl.at_.fr.xs
    have := h.rr.lt
    omega
  have hF1 := hF.chg C1 (fun _ ad _ x => x)
  have H := Lib.hid (And.intro hB (And.intro hbx (And.intro g1 (And.intro hF1 ho))))
  clear h hF ho C1 hB hbx g1 hF1
  by_cases ha : 0 ≤ a
  all_goals
    go_enter Try.func34, Try.ntmps34
    go_wp2_with fail
    go_ret
    exact ⟨rfl, H.out.1⟩
end Go.Proofs.Ytlhlnkfmmklkbaa.Pool
