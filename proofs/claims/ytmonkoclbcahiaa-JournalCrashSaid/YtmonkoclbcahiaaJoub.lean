/- Chapter 6, several texts in one (a claim holds at most 60 files). -/
import Derived.Test.YtmonkoclbcahiaaJour
import Derived.Test.YtmonkoclbcahiaaLogM
import Derived.Test.YtmonkoclbcahiaaSlotF
import Derived.Test.YtmonkoclbcahiaaSlotH
import Derived.Test.YtmonkoclbcahiaaLogJ
import Derived.Test.YtmonkoclbcahiaaHpE
namespace Go.Proofs.Ytmonkoclbcahiaa.Jour
open Go.RowKit Go.Proofs.Ytmonkoclbcahiaa.Hp Go.Proofs.Ytmonkoclbcahiaa.By Go.Proofs.Ytmonkoclbcahiaa.Disk Go.Proofs.Ytmonkoclbcahiaa.Word Go.Proofs.Ytmonkoclbcahiaa.WordP Go.Proofs.Ytmonkoclbcahiaa.Log Go.Proofs.Ytmonkoclbcahiaa.Slot
set_option linter.unusedVariables false
set_option linter.unusedSimpArgs false
theorem lrows_len {w : World} {base : Nat} {v : Value} {bs : List (List Int)} (h : LRows w base v bs) : ∃ A c, v = .slice A bs.length c := by
  obtain ⟨SVs, hown, _⟩ := h
  rcases hown.2 with ⟨rfl, h0⟩ | ⟨g, cap, cur, rfl, _⟩
  · exact ⟨none, 0, by rw [h0]⟩
  · exact ⟨_, _, rfl⟩
def OpenPost (w0 w : World) (d : Nat) (ρ : Nat → Nat) (s : DSt) (f : Nat → List Int) (e : Ending) (w' : World) : Prop :=
  ∃ j vb A k c, e = .returned (.tuple #[.pointer (some ⟨j, 0, none⟩), vb, .slice A k c, .int .i64 0]) ∧ JL w0 w' j d ρ s (loadOf f).1 k false ∧ Chg (Own ρ) w w' ∧ OwnB w.heap.size w' vb (loadOf f).2 ∧ LRows w' w.heap.size (.slice A k c) (recs s (loadOf f).1 k) ∧ k ≤ 64 ∧ (∀ j : Nat, j < k → (recOf (s.get (j : Int)) (loadOf f).1 j).isSome = true) ∧ (k = 64 ∨ recOf (s.get (k : Int)) (loadOf f).1 k = none) ∧ 0 ≤ (loadOf f).1 ∧ (loadOf f).1 < 4294967296
theorem lrows_base {w : World} {base base' : Nat} {v : Value} {bs : List (List Int)} (h : LRows w base' v bs) (hb : base ≤ base') : LRows w base v bs := by
  obtain ⟨SVs, hown, hels⟩ := h
  obtain ⟨h1, h2⟩ := hown
  refine ⟨SVs, ⟨h1, ?_⟩, fun j hj => ?_⟩
  · rcases h2 with h2 | ⟨g, cap, cur, e1, e2, e3⟩
    · exact .inl h2
    · exact .inr ⟨g, cap, cur, e1, by omega, e3⟩
  · obtain ⟨g, c, l, e1, e2, e3, e4⟩ := hels j hj
    exact ⟨g, c, l, e1, e2, by omega, e4⟩
set_option maxRecDepth 100000 in
set_option maxHeartbeats 1000000 in
theorem jopen_any {w0 w : World} {d : Nat} {ρ : Nat → Nat} {s : DSt} {f : Nat → List Int} (h : DL w0 w d ρ s) (hs : Says s f) :
    Calls Try.prog 21 #[.pointer (some ⟨d, 0, none⟩)] w (OpenPost w0 w d ρ s f) := by
  have hl := load_any h hs
  have hρ := own_lt_size h
  have hz := h.ch.size
  have HS := Lib.hid (And.intro hs (And.intro hρ hz))
  clear h hs hρ hz
  go_enter Try.func21, Try.ntmps21
  go_wp2_with fail
  refine hl.mono ?_
  rintro e w1 ⟨vb, rfl, hC1, h1, hv, g0, g1⟩
  have hr := replay_any (loadOf f).1 g0 g1 (by rw [HS.out.1.2.1]; decide) h1
  have H := Lib.hid (And.intro hC1 (And.intro hv (And.intro g0 g1)))
  obtain ⟨G, hG⟩ : ∃ G, G = (loadOf f).1 := ⟨_, rfl⟩
  have HG := Lib.hid hG
  rw [← hG] at hr g0 g1 ⊢
  clear hl hC1 hv h1 hG
  go_wp2_with fail
  refine hr.mono ?_
  intro e w2 hp
  obtain ⟨k, hk, q1, q2, v, rfl, hC, hL, hD⟩ := same_recs hp HS.out.1.1 (by rw [HS.out.1.2.1]; decide)
  obtain ⟨A, c, rfl⟩ := lrows_len hL
  rw [recs_len] at hL ⊢
  have fin : OpenPost w0 w d ρ s f (.returned (.tuple #[.pointer (some ⟨w2.heap.size, 0, none⟩), vb, .slice A k c, .int .i64 0])) (w2.alloc (.cells #[.pointer (some ⟨d, 0, none⟩), .int .u32 G, .int .i64 k, .bool false] 89)) := by
    have cA : Chg NoB w2 (w2.alloc (.cells #[.pointer (some ⟨d, 0, none⟩), .int .u32 G, .int .i64 k, .bool false] 89)) := (Chg.refl NoB w2).alloc _
    have cO : Chg (Own ρ) w1 (w2.alloc (.cells #[.pointer (some ⟨d, 0, none⟩), .int .u32 G, .int .i64 k, .bool false] 89)) := hC.trans cA (fun _ _ x => x.elim)
    have hlt1 : ∀ i, Own ρ i → i < w1.heap.size := fun i hi => by have := HS.out.2.1 i hi; have := H.out.1.size; omega
    have hzz : w.heap.size ≤ w1.heap.size := H.out.1.size
    have hz2 : w1.heap.size ≤ w2.heap.size := hC.size
    have hr0 : ρ w2.heap.size = 0 := by
      by_cases c : ρ w2.heap.size = 0
      · exact c
      · have := HS.out.2.1 _ c; omega
    have hGe := HG.out
    refine ⟨w2.heap.size, vb, A, k, c, rfl, ⟨hD.keep cA, ?_, hr0, by have := HS.out.2.2; omega⟩, H.out.1.trans cO (fun _ _ x => x), H.out.2.1.chg cO (fun i hi => by have := HS.out.2.1 i hi; omega), ?_, hk, ?_, ?_, H.out.2.2⟩
    · rw [← hGe]; exact bnew w2 _
    · rw [← hGe]; exact (lrows_base hL hzz).chg cA (fun _ x => x.elim)
    · rw [← hGe]; exact q1
    · rw [← hGe]; exact q2
  have F := Lib.hid fin
  clear fin hr hp hC hL hD q1 q2 H HG HS hk
  go_wp2_with fail
  (try simp only [Exit.inBlock, Exit.then])
  refine bodyPost_ret (results_tmp4 rfl _ _ _) rfl ?_
  exact F.out
end Go.Proofs.Ytmonkoclbcahiaa.Jour

namespace Go.Proofs.Ytmonkoclbcahiaa.Jour
open Go.RowKit Go.Proofs.Ytmonkoclbcahiaa.Hp Go.Proofs.Ytmonkoclbcahiaa.By Go.Proofs.Ytmonkoclbcahiaa.Disk Go.Proofs.Ytmonkoclbcahiaa.Word Go.Proofs.Ytmonkoclbcahiaa.WordP Go.Proofs.Ytmonkoclbcahiaa.Log Go.Proofs.Ytmonkoclbcahiaa.Slot
set_option linter.unusedVariables false
set_option linter.unusedSimpArgs false
theorem says_app {s : DSt} {f : Nat → List Int} (h : Says s f) (n : Nat) (hn : n < 192) (S : List Int) (hS : S.length = 64) : appE s (n : Int) S = 0 ∧ Says (appS s (n : Int) S) (fun j => if j = n then S else f j) := by
  obtain ⟨a1, a2⟩ := says_wr h n hn S hS
  obtain ⟨b1, b2, _⟩ := says_fl a2
  unfold appE appS
  rw [hS, if_pos a1, if_pos a1]
  exact ⟨b1, b2⟩
theorem load_congr {f f' : Nat → List Int} (h : ∀ j, 64 ≤ j → j < 96 → f j = f' j) : loadOf f = loadOf f' := by
  unfold loadOf
  rw [one_congr (f := f) (f' := f') (w := 0) (fun j a b => h j (by omega) (by omega)), one_congr (f := f) (f' := f') (w := 1) (fun j a b => h j (by omega) (by omega))]
theorem sum_zero : recOf (List.replicate 64 (0 : Int)) 0 0 = none := by decide +kernel
theorem saved_low (f : Nat → List Int) (gen : Int) (l : List Int) (j : Nat) (hj : j < 64) : savedF f gen l j = f j := by
  unfold savedF
  rcases aN_rng gen with ⟨a, b⟩ | ⟨a, b⟩
  · rw [if_neg (by omega), if_neg (by omega)]
  · rw [if_neg (by omega), if_neg (by omega)]
/-- how many records, where it is known what the sectors say -/
theorem stop_at {s : DSt} {f : Nat → List Int} {gen : Int} {k : Nat} (hs : Says s f) (hk : k ≤ 64) (q1 : ∀ j : Nat, j < k → (recOf (s.get (j : Int)) gen j).isSome = true) (q2 : k = 64 ∨ recOf (s.get (k : Int)) gen k = none) (n : Nat) (hn : n ≤ 64) (h1 : ∀ j, j < n → (recOf (f j) gen j).isSome = true) (h2 : n = 64 ∨ recOf (f n) gen n = none) : k = n :=
  stop_eq (f := fun j => s.get (j : Int)) hk hn q1 q2 (fun j hj => by show (recOf (s.get (j : Int)) gen j).isSome = true; rw [hs.2.2]; exact h1 j hj) (by
    rcases h2 with h2 | h2
    · exact .inl h2
    · right; show recOf (s.get (n : Int)) gen n = none; rw [hs.2.2]; exact h2)
/-- one byte, written in the text -/
theorem one_const (w1 : World) (b : Int) : Rd (w1.alloc (.cells #[.int .u8 b] 5 (1, 2))) .u8 (some ⟨w1.heap.size, 0, none⟩) [b] := ⟨by simp, fun _ => ⟨_, rfl, fun j hj => by
  have : j = 0 := by simpa using hj
  subst this
  rw [add0]
  exact (World.cell?_alloc_mark w1 #[.int .u8 b] 5 (1, 2) 0).trans rfl⟩⟩
set_option maxRecDepth 100000 in
set_option maxHeartbeats 2000000 in
theorem answers6 (w0 : World) : Calls Try.prog 22 #[] w0 (True1 w0) := by
  go_enter Try.func22, Try.ntmps22
  go_wp2_with fail
  refine (l_new 192 (by omega) (by omega) w0).mono ?_
  rintro e w1 ⟨d, ρ, rfl, h⟩
  have ho := jopen_any h says_new
  clear h
  go_wp2_with fail
  refine ho.mono ?_
  rintro e w2 ⟨j, vb, A, k, c, rfl, hJ, _, _, _, hk, q1, q2, _, _⟩
  rw [load_zero] at hJ q1 q2
  have hk0 : k = 0 := stop_at says_new hk q1 q2 0 (by omega) (fun j hj => by omega) (.inr sum_zero)
  subst hk0
  have hc0 := Lib.run_convert_bytes_const (P := Try.prog) w2 31 5 #[.int .u8 98] 1 1 Try.underlying31 Try.underlying5
  have hz : ρ w2.heap.size = 0 := by
    obtain ⟨_, _, _, _, _, _, _, hp⟩ := hJ.1.at_
    exact hp.rz _ (Nat.le_refl _)
  have hrb := jreb_any (hJ.keep ((Chg.refl NoB w2).alloc (.cells #[.int .u8 98] 5 (1, 2)))) rfl (some ⟨w2.heap.size, 0, none⟩) 1 [98] (by decide) (by decide) (by decide) (one_const w2 98) (fun _ ad e x => by
    obtain rfl := Option.some.inj e
    exact x hz) (by decide) (fun x hx => by rw [List.mem_singleton] at hx; subst hx; decide)
  simp only [List.length_cons, List.length_nil, Nat.zero_add] at hrb
  clear ho hJ q1 q2 hz hk
  go_wp2_with fail
  refine hrb.mono ?_
  rintro e w3 ⟨E, s2, rfl, hS, ρ3, hJ3, _, _⟩
  obtain ⟨rfl, hs2, _⟩ := save_calm says_new (by decide) hS
  rw [if_pos rfl, if_pos rfl, if_pos rfl] at hJ3
  replace hJ3 : JL w0 w3 j d ρ3 s2 1 0 false := hJ3
  replace hs2 : Says s2 (savedF (fun _ => List.replicate 64 0) 1 [98]) := hs2
  have hc1 := Lib.run_convert_bytes_const (P := Try.prog) w3 31 5 #[.int .u8 120] 1 1 Try.underlying31 Try.underlying5
  have hap := japp_any (hJ3.keep ((Chg.refl NoB w3).alloc (.cells #[.int .u8 120] 5 (1, 2)))) (some ⟨w3.heap.size, 0, none⟩) 1 [120] (by decide) (by decide) (by decide) (by decide) (by decide) (one_const w3 120) (fun x hx => by rw [List.mem_singleton] at hx; subst hx; decide)
  simp only [List.length_cons, List.length_nil, Nat.zero_add] at hap
  clear hrb hS hJ3 hc0
  have hl98 : loadOf (savedF (fun _ => List.replicate 64 0) 1 [98]) = (1, [98]) :=
    load_two 1 (by decide) (by decide) (one_saved _ 1 [98] (by decide) (by decide) (by decide) 1 (by decide)) (fun q hq => by
      rw [one_other _ 1 [98] (by decide) (1 - 1) (by decide) (by decide), one_zero _ (by decide)] at hq; cases hq)
  have hsl := secL_len 1 ((0 : Nat) : Int) [120] (by decide)
  obtain ⟨a1, a2⟩ := says_app hs2 0 (by decide) (secL 1 ((0 : Nat) : Int) [120]) hsl
  have hl2 : loadOf (fun i => if i = 0 then secL 1 ((0 : Nat) : Int) [120] else savedF (fun _ => List.replicate 64 0) 1 [98] i) = (1, [98]) := by
    rw [← hl98]; exact load_congr (fun i h1 h2 => if_neg (by omega))
  have k1 : ∀ i, i < 1 → (recOf ((fun i => if i = 0 then secL 1 ((0 : Nat) : Int) [120] else savedF (fun _ => List.replicate 64 0) 1 [98] i) i) 1 i).isSome = true := fun i hi => by
    obtain rfl : i = 0 := by omega
    show (recOf (secL 1 ((0 : Nat) : Int) [120]) 1 ((0 : Nat) : Int)).isSome = true
    rw [rec_sec 1 ((0 : Nat) : Int) [120] (by decide)]; rfl
  have k2 : recOf ((fun i => if i = 0 then secL 1 ((0 : Nat) : Int) [120] else savedF (fun _ => List.replicate 64 0) 1 [98] i) 1) 1 ((1 : Nat) : Int) = none := by
    show recOf (savedF (fun _ => List.replicate 64 0) 1 [98] 1) 1 ((1 : Nat) : Int) = none
    rw [saved_low _ _ _ 1 (by decide)]
    exact rec_zero (by decide)
  generalize (fun i => if i = 0 then secL 1 ((0 : Nat) : Int) [120] else savedF (fun _ => List.replicate 64 0) 1 [98] i) = F2 at a2 hl2 k1 k2
  have HA := Lib.hid (And.intro a1 (And.intro a2 (And.intro hl2 (And.intro k1 k2))))
  clear hl98 hsl a1 a2 hl2 k1 k2 hs2
  go_wp2_with fail
  refine hap.mono ?_
  rintro e w4 ⟨rfl, ρ4, hJ4, _, _⟩
  have e1 : appE s2 0 (secL 1 0 [120]) = 0 := HA.out.1
  rw [e1] at hJ4 ⊢
  rw [if_pos rfl] at hJ4
  have ho2 := jopen_any (f := F2) hJ4.1 HA.out.2.1
  clear hap hJ4 e1 hc1
  go_wp2_with fail
  refine ho2.mono ?_
  rintro e w5 ⟨j5, vb5, A5, k5, c5, rfl, hJ5, _, hv5, _, hk5, q1, q2, _, _⟩
  rw [HA.out.2.2.1] at hJ5 hv5 q1 q2
  have hk1 : k5 = 1 := stop_at HA.out.2.1 hk5 q1 q2 1 (by decide) HA.out.2.2.2.1 (.inr HA.out.2.2.2.2)
  subst hk1
  obtain ⟨Av, cv, rfl, _, hr, _, _, hfm⟩ := hv5
  obtain ⟨ad, rfl, hcell⟩ := hr.at_ 0 (by decide)
  obtain ⟨g, rfl⟩ := hfm ad rfl
  have hcv : (convert 31 9 (.slice (some ⟨g, 0, none⟩) 1 cv)).run Try.prog w5 = .ok (.string (strOfNums [98])) w5 := by
    refine run_convert_bytes_arg (P := Try.prog) w5 31 5 Try.underlying31 Try.underlying5 g 0 1 cv [98] rfl (fun i hi => ?_) 9 Try.underlying9
    obtain rfl : i = 0 := by omega
    rw [add0] at hcell
    exact hcell
  have es : strOfNums [98] = { data := #[98] } := by decide
  rw [es] at hcv
  have hln := len_any _ _ _ _ _ _ _ _ _ hJ5
  have fin : Chg NoB w0 w5 := hJ5.1.ch
  clear ho2 hJ5 hr hcell es q1 q2 hk5 HA
  go_wp2_with (first | ((with_reducible refine hln.mono ?_); rintro e w6 ⟨rfl, rfl⟩) | go_in)
  go_ret
  exact ⟨rfl, fin⟩
set_option maxRecDepth 100000 in
theorem journalNone (A : Option Addr) (len c : Nat) (w : World) : Calls Try.prog 6 #[.slice A len c] w (True1 w) := by
  have h1 := fun w => japp_nil A len c w
  have h2 := fun w => jreb_nil (.slice A len c) w
  go_enter Try.func6, Try.ntmps6
  go_wp2_with fail
  refine (jopen_nil _).mono ?_
  rintro e w1 ⟨rfl, rfl⟩
  go_wp2_with (first | ((with_reducible refine (answers6 _).mono ?_); rintro e w6 ⟨rfl, hC6⟩) | ((with_reducible refine (h1 _).mono ?_); rintro e w7 ⟨rfl, rfl⟩) | ((with_reducible refine (h2 _).mono ?_); rintro e w8 ⟨rfl, rfl⟩) | ((with_reducible refine (len_nil _).mono ?_); rintro e w9 ⟨rfl, rfl⟩) | go_in)
  go_ret
  exact ⟨rfl, hC6⟩
theorem journalNone_row (a0 : Option Addr) (len0 cap0 : Nat) (z0 : List Int) (W : World) (w0 : IsRow .u8 W a0 len0 cap0 z0) (y0 : len0 * 1 ≤ 140737488351232) :
    Calls Try.prog 6 #[.slice a0 len0 cap0] W fun e w' => e = .returned (.bool true) ∧ Below W.heap.size W w' :=
  (journalNone a0 len0 cap0 W).mono fun _ _ h => h.row
end Go.Proofs.Ytmonkoclbcahiaa.Jour

namespace Go.Proofs.Ytmonkoclbcahiaa.Jour
open Go.RowKit Go.Proofs.Ytmonkoclbcahiaa.Hp Go.Proofs.Ytmonkoclbcahiaa.By Go.Proofs.Ytmonkoclbcahiaa.Disk Go.Proofs.Ytmonkoclbcahiaa.Word Go.Proofs.Ytmonkoclbcahiaa.WordP Go.Proofs.Ytmonkoclbcahiaa.Log Go.Proofs.Ytmonkoclbcahiaa.Slot
set_option linter.unusedVariables false
set_option linter.unusedSimpArgs false
theorem wr_get (s : DSt) (n : Int) (l : List Int) (j : Nat) (h : j ≠ n.toNat) : (s.wr n l).get (j : Int) = s.get (j : Int) := by
  have io : (s.io n).get (j : Int) = s.get (j : Int) := by unfold DSt.io; split <;> rfl
  unfold DSt.wr
  split
  · split
    · rw [get_put_ne _ _ _ (by omega)]; exact io
    · exact io
  · rfl
theorem fl_get (s : DSt) (j : Nat) : s.fl.get (j : Int) = s.get (j : Int) := by
  unfold DSt.fl
  split
  · rfl
  · rfl
theorem wrN_get (s : DSt) (a : Nat) (pg : Nat → List Int) (j : Nat) : ∀ k, ¬ (a + 1 ≤ j ∧ j < a + 1 + k) → (wrN s a pg k).get (j : Int) = s.get (j : Int)
  | 0, _ => rfl
  | k + 1, h => by
    show ((wrN s a pg k).wr ((a : Int) + 1 + k) (pg k)).get (j : Int) = _
    rw [wr_get _ _ _ _ (by omega)]
    exact wrN_get s a pg j k (by omega)
theorem saves_get {s s' : DSt} {gen E : Int} {l : List Int} (hl : l.length ≤ 960) (h : Saves s gen l E s') (j : Nat) (hj : ¬ (aN gen ≤ j ∧ j ≤ aN gen + 15)) : s'.get (j : Int) = s.get (j : Int) := by
  have hp := pagesN_le hl
  have ea := aN_eq gen
  have wg : ∀ k, k ≤ 15 → (wrN s (slotAt gen) (page l) k).get (j : Int) = s.get (j : Int) := fun k hk => by rw [ea]; exact wrN_get s (aN gen) (page l) j k (by omega)
  rcases h with ⟨k, hk, _, _, _, rfl⟩ | ⟨_, h⟩
  · exact wg _ (by omega)
  · rcases h with ⟨_, _, rfl⟩ | ⟨_, _, rfl⟩
    · rw [fl_get]; exact wg _ hp
    · unfold appS
      split
      · rw [fl_get, wr_get _ _ _ _ (by omega), fl_get]; exact wg _ hp
      · rw [wr_get _ _ _ _ (by omega), fl_get]; exact wg _ hp
theorem fa_wr0n {s : DSt} (h : FailsAt s 0) (n : Nat) (hn : n < 192) (S : List Int) (hS : S.length = 64) : Disk.Calm (s.wr (n : Int) S) := by
  have e1 : s.ioE (n : Int) = 6 := by unfold DSt.ioE; rw [if_pos ⟨by omega, by rw [h.2]; omega⟩, h.1, fa_work0]
  unfold DSt.wr
  rw [if_pos hS, if_neg (by rw [e1]; decide), io_in (by omega) (by rw [h.2]; omega), h.1, fa_work0]
  rfl
theorem fa_fl0n {s : DSt} (h : FailsAt s 0) : Disk.Calm s.fl := by
  unfold DSt.fl
  rw [h.1, fa_work0, if_neg (by decide)]
  rfl
theorem saves_fail_calm {s s' : DSt} {gen E : Int} {l : List Int} {k : Nat} (h : FailsAt s k) (hk : k ≤ 2) (hl : l.length ≤ 960) (hS : Saves s gen l E s') : Disk.Calm s' := by
  have hp := pagesN_le hl
  have ha := aN_rng gen
  by_cases c : k < pagesN l
  · obtain ⟨w1, w2⟩ := fa_wrN (s := s) (a := aN gen) (page_len l) k 0 (by omega) (by rw [Nat.zero_add]; exact h)
    have w3 := fa_wr0 w2 (aN gen + 1 + k) (by omega)
    have w4 := fa_wr0n w2 (aN gen + 1 + k) (by omega) (page l k) (page_len l k)
    rw [show ((aN gen + 1 + k : Nat) : Int) = (aN gen : Int) + 1 + k by omega] at w3 w4
    rw [← aN_eq] at w1 w3 w4
    rcases hS with ⟨k', hk', h1, h2, h3, rfl⟩ | ⟨h1, _⟩
    · rcases Nat.lt_trichotomy k' k with q | q | q
      · exact absurd (by rw [← h2]; exact w1 k' q) h3
      · subst q; exact w4
      · have := h1 k q; rw [w3] at this; cases this
    · have := h1 k c; rw [w3] at this; cases this
  · obtain ⟨w1, w2⟩ := fa_wrN (s := s) (a := aN gen) (page_len l) (pagesN l) (k - pagesN l) (by omega) (by rw [show k - pagesN l + pagesN l = k by omega]; exact h)
    rw [← aN_eq] at w1 w2
    rcases hS with ⟨k', hk', h1, h2, h3, _⟩ | ⟨_, hS⟩
    · exact absurd (by rw [← h2]; exact w1 k' hk') h3
    · generalize wrN s (slotAt gen) (page l) (pagesN l) = s1 at *
      obtain ⟨m, hm⟩ : ∃ m, m = k - pagesN l := ⟨_, rfl⟩
      rw [← hm] at w2
      have hm2 : m = 0 ∨ m = 1 ∨ m = 2 := by omega
      rcases hm2 with rfl | rfl | rfl
      · rcases hS with ⟨_, _, rfl⟩ | ⟨h1, _⟩
        · exact fa_fl0n w2
        · rw [fa_fl0 w2] at h1; cases h1
      · obtain ⟨f1, f2⟩ := fa_fl (k := 0) w2
        rcases hS with ⟨h1, h2, _⟩ | ⟨_, _, rfl⟩
        · exact absurd (by rw [← h1]; exact f1) h2
        · have e := fa_wr0 f2 (aN gen) (by omega)
          have e2 := fa_wr0n f2 (aN gen) (by omega) (headL gen l) (headL_len gen l)
          rw [← aN_eq] at e e2
          unfold appS
          rw [headL_len, if_neg (by rw [e]; decide)]
          exact e2
      · obtain ⟨f1, f2⟩ := fa_fl (k := 1) w2
        rcases hS with ⟨h1, h2, _⟩ | ⟨_, _, rfl⟩
        · exact absurd (by rw [← h1]; exact f1) h2
        · obtain ⟨a1, a2⟩ := fa_wr (k := 0) f2 (aN gen) (by omega) (headL gen l) (headL_len gen l)
          rw [← aN_eq] at a1 a2
          unfold appS
          rw [headL_len, a1, if_pos rfl]
          exact fa_fl0n a2
/-- an append on a calm disk: all is sure -/
theorem app_firmly {s : DSt} {f : Nat → List Int} (h : Says s f) (n : Nat) (hn : n < 192) (S : List Int) (hS : S.length = 64) : Firm (appS s (n : Int) S) (fun j => if j = n then S else f j) := by
  obtain ⟨a, b⟩ := app_calm h.1 (n := (n : Int)) (by omega) (by rw [h.2.1]; omega) hS
  obtain ⟨_, c⟩ := says_app h n hn S hS
  refine ⟨c.2.1, fun j => ?_, fun j => ?_⟩
  · rw [← c.2.2 j, b]; rfl
  · rw [b]; rfl
end Go.Proofs.Ytmonkoclbcahiaa.Jour

namespace Go.Proofs.Ytmonkoclbcahiaa.Jour
open Go.RowKit Go.Proofs.Ytmonkoclbcahiaa.Hp Go.Proofs.Ytmonkoclbcahiaa.By Go.Proofs.Ytmonkoclbcahiaa.Disk Go.Proofs.Ytmonkoclbcahiaa.Word Go.Proofs.Ytmonkoclbcahiaa.WordP Go.Proofs.Ytmonkoclbcahiaa.Log Go.Proofs.Ytmonkoclbcahiaa.Slot
set_option linter.unusedVariables false
set_option linter.unusedSimpArgs false
theorem rows_one (W : World) (C : Option Addr) (cc : Nat) (l : List Int) (T : TypeId) (h : Rd W .u8 C l) : Log.Rows (W.alloc (.cells #[.slice C l.length cc] T)) (some ⟨W.heap.size, 0, none⟩) [l] := fun j hj => by
  have : j = 0 := by simpa using hj
  subst this
  exact ⟨_, C, cc, rfl, by rw [add0, bcell (bnew W _)]; rfl, h.chg ((Chg.refl NoB W).alloc _) (fun _ _ _ x => x)⟩
theorem failing_at {s : DSt} {f : Nat → List Int} (h : Says s f) (k : Nat) : FailsAt (s.failing (k : Int) 1) k := by
  have e : s.num = ⟨0, 0, -1, false⟩ := h.1
  refine ⟨?_, h.2.1⟩
  unfold DSt.failing
  rw [e, if_neg (by omega)]; rfl
set_option maxRecDepth 100000 in
set_option maxHeartbeats 2000000 in
theorem journalBroken (A B C : Option Addr) (ca cb cc : Nat) (a b c : List Int) (n : Int) (w : World) (n0 : 0 ≤ n) (n1 : n ≤ 255) (ra : Rd w .u8 A a) (rb : Rd w .u8 B b) (rc : Rd w .u8 C c) (pb : b.length ≤ cb) (ba : Bytes a) (bb : Bytes b) (bc : Bytes c) :
    Calls Try.prog 10 #[.slice A a.length ca, .slice B b.length cb, .slice C c.length cc, .int .u8 n] w (True1 w) := by
  by_cases hd : 50 < a.length ∨ (¬ 50 < a.length ∧ 900 < b.length) ∨ (¬ 50 < a.length ∧ ¬ 900 < b.length ∧ 50 < c.length)
  · clear ra rb rc ba bb bc pb
    rcases hd with hd | ⟨hd, he⟩ | ⟨hd, he, hf⟩
    all_goals
      go_enter Try.func10, Try.ntmps10
      go_wp2_with fail
      refine (answers6 _).mono ?_
      rintro e w1 ⟨rfl, hC⟩
      have fin : True1 w (.returned (.bool true)) w1 := ⟨rfl, hC⟩
      clear hC
      go_wp2_with fail
      go_ret
      exact fin
  · have la : a.length ≤ 50 := by omega
    have lb : b.length ≤ 900 := by omega
    have lc : c.length ≤ 50 := by omega
    obtain ⟨k, hk, hnk⟩ : ∃ k : Nat, k ≤ 2 ∧ n % 3 = (k : Int) := ⟨(n % 3).toNat, by omega, by omega⟩
    have HR := Lib.hid (And.intro ra (And.intro rb (And.intro rc (And.intro pb (And.intro ba (And.intro bb bc))))))
    clear ra rb rc pb ba bb bc hd
    go_enter Try.func10, Try.ntmps10
    go_wp2_with fail
    refine (l_new 192 (by omega) (by omega) w).mono ?_
    rintro e w1 ⟨d, ρ, rfl, h⟩
    have ho := jopen_any h says_new
    clear h
    go_wp2_with fail
    refine ho.mono ?_
    rintro e w2 ⟨j, vb, Ao, ko, co, rfl, hJ, _, _, _, hko, q1, q2, _, _⟩
    rw [load_zero] at hJ q1 q2
    have hk0 : ko = 0 := stop_at says_new hko q1 q2 0 (by omega) (fun j hj => by omega) (.inr sum_zero)
    subst hk0
    have hap := japp_any hJ A ca a (by decide) (by decide) (by decide) (by decide) la (HR.out.1.chg hJ.1.ch (fun _ _ _ x => x)) HR.out.2.2.2.2.1
    obtain ⟨a1, a2⟩ := says_app says_new 0 (by decide) (secL 0 ((0 : Nat) : Int) a) (secL_len 0 _ a la)
    have HA := Lib.hid (And.intro a1 a2)
    clear ho hJ q1 q2 a1 a2
    go_wp2_with fail
    refine hap.mono ?_
    rintro e w3 ⟨rfl, ρ3, hJ3, _, _⟩
    have e1 : appE (DSt.new 192) ((0 : Nat) : Int) (secL 0 ((0 : Nat) : Int) a) = 0 := HA.out.1
    rw [e1] at hJ3 ⊢
    rw [if_pos rfl] at hJ3
    have hs1 : Says (appS (DSt.new 192) ((0 : Nat) : Int) (secL 0 ((0 : Nat) : Int) a)) (fun i => if i = 0 then secL 0 ((0 : Nat) : Int) a else List.replicate 64 0) := HA.out.2
    clear hap e1 HA
    generalize hge : appS (DSt.new 192) ((0 : Nat) : Int) (secL 0 ((0 : Nat) : Int) a) = s1 at hJ3 hs1
    clear hge
    have hfl := l_fail (k : Int) 1 (by omega) (by omega) hJ3.1
    have HJ3 := Lib.hid (And.intro hJ3 hs1)
    clear hJ3 hs1
    go_wp2_with fail
    rw [hnk]
    refine hfl.mono ?_
    rintro e w4 ⟨rfl, h4, hC4⟩
    have hJ4 := HJ3.out.1.mk' hC4 h4 (fun _ _ x => x)
    have fa := failing_at HJ3.out.2 k
    have hget4 : ∀ i : Nat, (s1.failing (k : Int) 1).get (i : Int) = s1.get (i : Int) := fun i => rfl
    have hrb := jreb_any hJ4 fa.2 B cb b (by decide) (by decide) (by omega) (HR.out.2.1.chg h4.ch (fun _ _ _ x => x)) (fun hp ad e x => by
      have q1 := HR.out.2.1.lt hp ad e
      have q2 := h4.nw _ x
      omega) HR.out.2.2.2.1 HR.out.2.2.2.2.2.1
    have HF := Lib.hid (And.intro fa (And.intro hget4 HJ3.out.2))
    clear hfl h4 hC4 hJ4 fa hget4 HJ3 hnk
    generalize s1.failing (k : Int) 1 = sf at *
    go_wp2_with fail
    refine hrb.mono ?_
    rintro e w5 ⟨E, s2, rfl, hS, ρ5, hJ5, _, _⟩
    have hE := saves_fail HF.out.1 hk (by omega) hS
    have hc2 := saves_fail_calm HF.out.1 hk (by omega) hS
    have hg2 : ∀ i : Nat, ¬ (aN (0 + 1) ≤ i ∧ i ≤ aN (0 + 1) + 15) → s2.get (i : Int) = if i = 0 then secL 0 ((0 : Nat) : Int) a else List.replicate 64 0 := fun i hi => by
      rw [saves_get (by omega) hS i hi, HF.out.2.1]; exact HF.out.2.2.2.2 i
    have hn2 : s2.n = 192 := (saves_n hS).trans HF.out.1.2
    subst hE
    rw [if_neg (by decide), if_neg (by decide), if_neg (by decide)] at hJ5
    have hfu := japp_full w w5 j d ρ5 s2 0 (((0 : Nat) : Int) + 1) true hJ5 C c.length cc lc (.inl rfl)
    have hs2 : Says s2 (fun i => s2.get (i : Int)) := ⟨hc2, hn2, fun _ => rfl⟩
    have hrb2 := jreb_any hJ5 hn2 B cb b (by decide) (by decide) (by omega) (HR.out.2.1.chg hJ5.1.ch (fun _ _ _ x => x)) (fun hp ad e x => by
      have q1 := HR.out.2.1.lt hp ad e
      have q2 := hJ5.1.nw _ x
      omega) HR.out.2.2.2.1 HR.out.2.2.2.2.2.1
    have H2 := Lib.hid (And.intro hs2 hg2)
    clear hrb hS hJ5 hc2 hg2 hn2 hs2 HF
    go_wp2_with fail
    refine hfu.mono ?_
    rintro e w6 ⟨rfl, rfl⟩
    clear hfu
    go_wp2_with fail
    refine hrb2.mono ?_
    rintro e w7 ⟨E, s3, rfl, hS, ρ7, hJ7, _, _⟩
    obtain ⟨rfl, hs3, _⟩ := save_calm H2.out.1 (by omega) hS
    rw [if_pos rfl, if_pos rfl, if_pos rfl] at hJ7
    replace hJ7 : JL w w7 j d ρ7 s3 1 0 false := hJ7
    replace hs3 : Says s3 (savedF (fun i => s2.get (i : Int)) 1 b) := hs3
    have hap := japp_any hJ7 C cc c (by decide) (by decide) (by decide) (by decide) lc (HR.out.2.2.1.chg hJ7.1.ch (fun _ _ _ x => x)) HR.out.2.2.2.2.2.2
    obtain ⟨a1, a2⟩ := says_app hs3 0 (by decide) (secL 1 ((0 : Nat) : Int) c) (secL_len 1 _ c lc)
    have a3 := app_firmly hs3 0 (by decide) (secL 1 ((0 : Nat) : Int) c) (secL_len 1 _ c lc)
    have hl2 : loadOf (fun i => if i = 0 then secL 1 ((0 : Nat) : Int) c else savedF (fun i => s2.get (i : Int)) 1 b i) = (1, b) := by
      have e1 : loadOf (savedF (fun i => s2.get (i : Int)) 1 b) = (1, b) := load_saved (by decide) (by decide) (by omega) 1 (by decide) (by decide) (fun q hq => by
        have hz : oneOf (fun i => s2.get (i : Int)) (1 - 1) = none := one_zeros (by decide) (by
          show s2.get ((64 : Nat) : Int) = _
          rw [H2.out.2 64 (by have : aN (0 + 1) = 80 := by decide
                              omega)]; rfl)
        rw [hz] at hq; cases hq)
      rw [← e1]; exact load_congr (fun i h1 h2 => if_neg (by omega))
    have k1 : ∀ i, i < 1 → (recOf ((fun i => if i = 0 then secL 1 ((0 : Nat) : Int) c else savedF (fun i => s2.get (i : Int)) 1 b i) i) 1 i).isSome = true := fun i hi => by
      obtain rfl : i = 0 := by omega
      show (recOf (secL 1 ((0 : Nat) : Int) c) 1 ((0 : Nat) : Int)).isSome = true
      rw [rec_sec 1 ((0 : Nat) : Int) c lc]; rfl
    have k0 : recOf ((fun i => if i = 0 then secL 1 ((0 : Nat) : Int) c else savedF (fun i => s2.get (i : Int)) 1 b i) 0) 1 ((0 : Nat) : Int) = some c := rec_sec 1 ((0 : Nat) : Int) c lc
    have k2 : recOf ((fun i => if i = 0 then secL 1 ((0 : Nat) : Int) c else savedF (fun i => s2.get (i : Int)) 1 b i) 1) 1 ((1 : Nat) : Int) = none := by
      show recOf (savedF (fun i => s2.get (i : Int)) 1 b 1) 1 ((1 : Nat) : Int) = none
      rw [saved_low _ _ _ 1 (by decide), H2.out.2 1 (by have : aN (0 + 1) = 80 := by decide
                                                        omega)]
      exact rec_zero (by decide)
    generalize (fun i => if i = 0 then secL 1 ((0 : Nat) : Int) c else savedF (fun i => s2.get (i : Int)) 1 b i) = F4 at a2 a3 hl2 k0 k1 k2
    have HA := Lib.hid (And.intro a1 (And.intro a3 (And.intro hl2 (And.intro k0 (And.intro k1 k2)))))
    clear hrb2 hS hJ7 hs3 H2 a1 a2 a3 hl2 k0 k1 k2
    go_wp2_with fail
    refine hap.mono ?_
    rintro e w8 ⟨rfl, ρ8, hJ8, _, _⟩
    have e1 : appE s3 0 (secL 1 0 c) = 0 := HA.out.1
    have e2 : Firm (appS s3 0 (secL 1 0 c)) F4 := HA.out.2.1
    rw [e1] at hJ8 ⊢
    have hcr := l_crash 0 0 (by decide) (by decide) hJ8.1
    have hs5 := crash_firm e2 0 0
    generalize (appS s3 0 (secL 1 0 c)).crash 0 0 = s5 at *
    clear hap hJ8 e1 e2
    go_wp2_with fail
    refine hcr.mono ?_
    rintro e w9 ⟨rfl, _, ρ9, h9, _⟩
    have ho2 := jopen_any h9 hs5
    have H5 := Lib.hid hs5
    clear hcr h9 hs5
    go_wp2_with fail
    refine ho2.mono ?_
    rintro e w10 ⟨j5, vb5, A5, k5, c5, rfl, hJ10, _, hv5, hL5, hk5, q1, q2, _, _⟩
    rw [HA.out.2.2.1] at hJ10 hv5 hL5 q1 q2
    have hk1 : k5 = 1 := stop_at H5.out hk5 q1 q2 1 (by decide) HA.out.2.2.2.2.1 (.inr HA.out.2.2.2.2.2)
    subst hk1
    have hrs : recs s5 1 1 = [c] := by
      rw [show (1 : Nat) = 0 + 1 from rfl, recs_snoc s5 1 0 c (by rw [H5.out.2.2]; exact HA.out.2.2.2.1)]; rfl
    rw [hrs] at hL5
    have hch := hJ10.1.ch
    obtain ⟨Av, cv, rfl, _, hrv, _⟩ := hv5
    have sm : ∀ w', Chg NoB w10 w' → Calls Try.prog 19 #[.slice Av b.length cv, .slice B b.length cb] w' (RetB true w') := fun w' hc => by
      have := same_any Av B cv cb b b w' (hrv.chg hc (fun _ _ _ x => x)) (HR.out.2.1.chg (hch.trans hc (fun _ _ x => x)) (fun _ _ _ x => x))
      rwa [decide_eq_true rfl] at this
    have sa : ∀ w', Chg NoB w10 w' → ∀ T, Calls Try.prog 29 #[.slice A5 1 c5, .slice (some ⟨w'.heap.size, 0, none⟩) 1 1] (w'.alloc (.cells #[.slice C c.length cc] T)) (RetB true (w'.alloc (.cells #[.slice C c.length cc] T))) := fun w' hc T => by
      have hL := (hL5.chg hc (fun _ x => x.elim)).chg ((Chg.refl NoB w').alloc (.cells #[.slice C c.length cc] T)) (fun _ x => x.elim)
      obtain ⟨A6, c6, ev, hR⟩ := hL.rows
      injection ev with ev1 _ _
      subst ev1
      have := sameAll_any A5 (some ⟨w'.heap.size, 0, none⟩) c5 1 [c] [c] _ hR (rows_one w' C cc c T (HR.out.2.2.1.chg (hch.trans hc (fun _ _ x => x)) (fun _ _ _ x => x))) (by simp) (by simp)
      rwa [decide_eq_true rfl] at this
    have hchh := Lib.hid hch
    clear ho2 hJ10 hL5 hrv q1 q2 hk5 HA H5 hrs HR hch
    go_wp2_with (first | ((with_reducible refine (answers6 _).mono ?_); rintro e w11 ⟨rfl, hC11⟩; have m1 := sm w11 hC11) | ((with_reducible refine m1.mono ?_); rintro e w12 ⟨rfl, hC12⟩; have m2 := sa w12 (hC11.trans hC12 (fun _ _ x => x)) 31) | ((with_reducible refine m2.mono ?_); rintro e w13 ⟨rfl, hC13⟩) | go_in)
    go_ret
    exact ⟨rfl, (((hchh.out.trans hC11 (fun _ _ x => x)).trans hC12 (fun _ _ x => x)).alloc _).trans hC13 (fun _ _ x => x)⟩
theorem u8b6 {n : Int} (h : (Lit.int .u8 n).wf = true) : 0 ≤ n ∧ n ≤ 255 := by
  simp only [Lit.wf, Bool.and_eq_true, decide_eq_true_eq] at h
  have e1 : IntKind.u8.min = 0 := rfl
  have e2 : IntKind.u8.max = 255 := rfl
  omega
theorem journalBroken_row (a1 : Option Addr) (len1 cap1 : Nat) (z1 : List Int) (a2 : Option Addr) (len2 cap2 : Nat) (z2 : List Int) (a3 : Option Addr) (len3 cap3 : Nat) (z3 : List Int) (a0 : Int) (W : World) (w1 : IsRow .u8 W a1 len1 cap1 z1) (y1 : len1 * 1 ≤ 140737488351232) (w2 : IsRow .u8 W a2 len2 cap2 z2) (y2 : len2 * 1 ≤ 140737488351232) (w3 : IsRow .u8 W a3 len3 cap3 z3) (y3 : len3 * 1 ≤ 140737488351232) (w0 : (Lit.int .u8 a0).wf = true) :
    Calls Try.prog 10 #[.slice a1 len1 cap1, .slice a2 len2 cap2, .slice a3 len3 cap3, .int .u8 a0] W fun e w' => e = .returned (.bool true) ∧ Below W.heap.size W w' := by
  obtain ⟨h1, h2, h3, h4⟩ := rd_of_row w1 (by omega)
  obtain ⟨k1, k2, k3, k4⟩ := rd_of_row w2 (by omega)
  obtain ⟨j1, j2, j3, j4⟩ := rd_of_row w3 (by omega)
  have := journalBroken a1 a2 a3 cap1 cap2 cap3 (z1.take len1) (z2.take len2) (z3.take len3) a0 W (u8b6 w0).1 (u8b6 w0).2 h1 k1 j1 (by rw [k2]; exact k3) (fun x hx => by have := u8b6 (h4 x hx); omega) (fun x hx => by have := u8b6 (k4 x hx); omega) (fun x hx => by have := u8b6 (j4 x hx); omega)
  rw [h2, k2, j2] at this
  exact this.mono fun _ _ h => h.row
end Go.Proofs.Ytmonkoclbcahiaa.Jour

namespace Go.Proofs.Ytmonkoclbcahiaa.Jour
open Go.RowKit Go.Proofs.Ytmonkoclbcahiaa.Hp Go.Proofs.Ytmonkoclbcahiaa.By Go.Proofs.Ytmonkoclbcahiaa.Disk Go.Proofs.Ytmonkoclbcahiaa.Word Go.Proofs.Ytmonkoclbcahiaa.WordP Go.Proofs.Ytmonkoclbcahiaa.Log Go.Proofs.Ytmonkoclbcahiaa.Slot
set_option linter.unusedVariables false
set_option linter.unusedSimpArgs false
theorem num_zero {gen n : Int} (h : 0 < n ∧ n < 4294967296) : recOf (List.replicate 64 0) gen n = none := by
  cases e : recOf (List.replicate 64 0) gen n with
  | none => rfl
  | some b =>
    obtain ⟨h1, h2⟩ := rec_some e
    have a := sec_num gen n b h2
    rw [h1] at a
    have z : ((List.replicate 64 (0 : Int)).drop 4).take 4 = digs 0 4 := by decide
    rw [z] at a
    have := digs_inj (by omega) (by omega) a
    omega
theorem none_zero {gen : Int} (g : 0 ≤ gen ∧ gen < 4294967296) (n : Nat) (hn : n < 4294967296) : recOf (List.replicate 64 0) gen n = none := by
  by_cases c : 0 < gen
  · exact rec_zero ⟨c, g.2⟩
  · obtain rfl : gen = 0 := by omega
    by_cases c2 : n = 0
    · subst c2; exact sum_zero
    · exact num_zero (by omega)
theorem getD_snoc {α : Type} (ws : List α) (p z : α) (j : Nat) : (ws ++ [p]).getD j z = if j = ws.length then p else ws.getD j z := by
  rw [List.getD_eq_getElem?_getD, List.getD_eq_getElem?_getD]
  by_cases c : j < ws.length
  · rw [List.getElem?_append_left c, if_neg (by omega)]
  · by_cases c2 : j = ws.length
    · subst c2
      rw [List.getElem?_append_right (by omega), if_pos rfl]; simp
    · rw [List.getElem?_append_right (by omega), if_neg c2, List.getElem?_eq_none (by simp; omega), List.getElem?_eq_none (by omega)]
/-- the two slots -/
def Two (f : Nat → List Int) (gen : Int) (now : List Int) : Prop :=
  0 ≤ gen ∧ (gen = 0 → now = [] ∧ ∀ j, 64 ≤ j → j < 96 → f j = List.replicate 64 0) ∧ (0 < gen → ∀ w : Nat, w < 2 → (w : Int) = gen % 2 → oneOf f w = some (gen, now) ∧ (f (64 + 16 * (1 - w)) = List.replicate 64 0 ∨ ∃ b, f (64 + 16 * (1 - w)) = headL (gen - 1) b))
theorem two_load {f : Nat → List Int} {gen : Int} {now : List Int} (h : Two f gen now) (g1 : gen < 4294967296) : loadOf f = (gen, now) := by
  obtain ⟨h2, h3, h4⟩ := h
  by_cases c : gen = 0
  · obtain ⟨rfl, hz⟩ := h3 c
    subst c
    rw [← load_zero]; exact load_congr hz
  · obtain ⟨w, hw2, hw⟩ : ∃ w : Nat, w < 2 ∧ (w : Int) = gen % 2 := ⟨(gen % 2).toNat, by omega, by omega⟩
    obtain ⟨o1, o2⟩ := h4 (by omega) w hw2 hw
    refine load_two w hw2 h2 o1 fun q hq => ?_
    rcases o2 with o2 | ⟨b, o2⟩
    · rw [one_zeros (by omega) o2] at hq; cases hq
    · have := one_gen (g := gen - 1) (b := b) (by omega) (by omega) o2 hq
      omega
theorem two_next {f : Nat → List Int} {gen : Int} {now l : List Int} (h : Two f gen now) (g1 : gen + 1 < 4294967296) (hl : l.length ≤ 960) : Two (savedF f (gen + 1) l) (gen + 1) l := by
  obtain ⟨h2, h3, h4⟩ := h
  refine ⟨by omega, fun x => by omega, fun _ w hw2 hw => ⟨one_saved f (gen + 1) l (by omega) g1 hl w hw, ?_⟩⟩
  have hp := pagesN_le hl
  have e : savedF f (gen + 1) l (64 + 16 * (1 - w)) = f (64 + 16 * (1 - w)) := by
    unfold savedF
    rcases aN_rng (gen + 1) with ⟨a, b⟩ | ⟨a, b⟩
    · rw [if_neg (by omega), if_neg (by omega)]
    · rw [if_neg (by omega), if_neg (by omega)]
  rw [e]
  by_cases c : gen = 0
  · exact .inl ((h3 c).2 _ (by omega) (by omega))
  · obtain ⟨o1, _⟩ := h4 (by omega) (1 - w) (by omega) (by omega)
    refine .inr ⟨now, ?_⟩
    have := one_head o1
    rw [this]
    show headL gen now = headL (gen + 1 - 1) now
    congr 1; omega
theorem two_congr {f f' : Nat → List Int} {gen : Int} {now : List Int} (h : Two f gen now) (he : ∀ j, 64 ≤ j → j < 96 → f' j = f j) : Two f' gen now := by
  obtain ⟨h2, h3, h4⟩ := h
  refine ⟨h2, fun c => ⟨(h3 c).1, fun j a b => by rw [he j a b]; exact (h3 c).2 j a b⟩, fun c w hw2 hw => ?_⟩
  obtain ⟨o1, o2⟩ := h4 c w hw2 hw
  refine ⟨by rw [one_congr (f' := f) (fun j a b => he j (by omega) (by omega))]; exact o1, ?_⟩
  rw [he _ (by omega) (by omega)]; exact o2
/-- the log: these records, and behind them older ones, or none -/
def LogOk (f : Nat → List Int) (gen : Int) (ws : List (List Int)) : Prop :=
  ws.length ≤ 64 ∧ (∀ p ∈ ws, p.length ≤ 50) ∧ (∀ j, j < ws.length → f j = secL gen j (ws.getD j [])) ∧ ∀ j, ws.length ≤ j → j < 64 → f j = List.replicate 64 0 ∨ ∃ (g' : Int) (p : List Int), 0 ≤ g' ∧ g' < gen ∧ p.length ≤ 50 ∧ f j = secL g' j p
theorem log_new (gen : Int) : LogOk (fun _ => List.replicate 64 0) gen [] := ⟨by simp, fun p hp => (by cases hp), fun j hj => by simp at hj, fun j _ _ => .inl rfl⟩
theorem log_app {f : Nat → List Int} {gen : Int} {ws : List (List Int)} (h : LogOk f gen ws) (p : List Int) (hp : p.length ≤ 50) (hl : ws.length < 64) : LogOk (fun j => if j = ws.length then secL gen ws.length p else f j) gen (ws ++ [p]) := by
  obtain ⟨h1, h2, h3, h4⟩ := h
  refine ⟨by simp; omega, fun q hq => ?_, fun j hj => ?_, fun j hj hj2 => ?_⟩
  · rcases List.mem_append.mp hq with hq | hq
    · exact h2 q hq
    · rw [List.mem_singleton] at hq; subst hq; exact hp
  · rw [List.length_append, List.length_singleton] at hj
    rw [getD_snoc]
    show (if j = ws.length then secL gen ws.length p else f j) = _
    by_cases c : j = ws.length
    · rw [if_pos c, if_pos c, c]
    · rw [if_neg c, if_neg c]; exact h3 j (by omega)
  · rw [List.length_append, List.length_singleton] at hj
    show (if j = ws.length then secL gen ws.length p else f j) = _ ∨ ∃ (g' : Int) (q : List Int), 0 ≤ g' ∧ g' < gen ∧ q.length ≤ 50 ∧ (if j = ws.length then secL gen ws.length p else f j) = secL g' j q
    rw [if_neg (by omega)]
    exact h4 j (by omega) hj2
theorem log_next {f f' : Nat → List Int} {gen : Int} {ws : List (List Int)} (g0 : 0 ≤ gen) (h : LogOk f gen ws) (he : ∀ j, j < 64 → f' j = f j) : LogOk f' (gen + 1) [] := by
  obtain ⟨h1, h2, h3, h4⟩ := h
  refine ⟨by simp, fun p hp => (by cases hp), fun j hj => by simp at hj, fun j _ hj => ?_⟩
  rw [he j hj]
  by_cases c : j < ws.length
  · exact .inr ⟨gen, ws.getD j [], g0, by omega, h2 _ (by rw [List.getD_eq_getElem?_getD, List.getElem?_eq_getElem c]; exact List.getElem_mem _), h3 j c⟩
  · rcases h4 j (by omega) hj with x | ⟨g', p, a, b, c', d⟩
    · exact .inl x
    · exact .inr ⟨g', p, a, by omega, c', d⟩
theorem log_some {f : Nat → List Int} {gen : Int} {ws : List (List Int)} (h : LogOk f gen ws) (j : Nat) (hj : j < ws.length) : recOf (f j) gen j = some (ws.getD j []) := by
  rw [h.2.2.1 j hj]
  exact rec_sec gen j _ (h.2.1 _ (by rw [List.getD_eq_getElem?_getD, List.getElem?_eq_getElem hj]; exact List.getElem_mem _))
theorem log_none {f : Nat → List Int} {gen : Int} {ws : List (List Int)} (g : 0 ≤ gen ∧ gen < 4294967296) (h : LogOk f gen ws) : ws.length = 64 ∨ recOf (f ws.length) gen ws.length = none := by
  by_cases c : ws.length = 64
  · exact .inl c
  · right
    rcases h.2.2.2 ws.length (Nat.le_refl _) (by have := h.1; omega) with x | ⟨g', p, a, b, c', d⟩
    · rw [x]; exact none_zero g _ (by have := h.1; omega)
    · rw [d]; exact rec_other c' ⟨a, by omega⟩ g (by omega)
theorem log_recs {s : DSt} {f : Nat → List Int} {gen : Int} {ws : List (List Int)} (h : LogOk f gen ws) (hs : Says s f) : recs s gen ws.length = ws := by
  have hl : (recs s gen ws.length).length = ws.length := recs_len _ _ _
  apply List.ext_getElem?
  intro j
  by_cases c : j < ws.length
  · rw [recs_recsF]
    unfold recsF
    rw [List.getElem?_map, List.getElem?_range c]
    simp only [Option.map_some]
    rw [hs.2.2, log_some h j c, List.getD_eq_getElem?_getD, List.getElem?_eq_getElem c]; rfl
  · rw [List.getElem?_eq_none (by omega), List.getElem?_eq_none (by omega)]
theorem firm_says {s : DSt} {f : Nat → List Int} (h : Firm s f) (hc : Disk.Calm s) : Says s f := ⟨hc, h.1, fun j => by
  show (s.loose ((j : Nat) : Int).toNat).getD (s.sure ((j : Nat) : Int).toNat) = f j
  rw [Int.toNat_natCast, h.2.2 j]; exact h.2.1 j⟩
/-- a slice of the call's own, of slices of bytes that came in -/
def WRows (w0 wr : World) (v : Value) (ws : List (List Int)) : Prop :=
  ∃ SVs, wr.ownsRow w0.heap.size 31 1 v ws.length SVs ∧ ∀ j, j < ws.length → ∃ B c, SVs[j]? = some (.slice B (ws.getD j []).length c) ∧ Rd w0 .u8 B (ws.getD j [])
theorem WRows.nil (w0 w : World) : WRows w0 w (.slice none 0 0) [] := ⟨[], World.ownsRow_nil _ _ _ _, fun j hj => by cases hj⟩
theorem WRows.chg {S : Nat → Prop} {w0 w w' : World} {v : Value} {ws : List (List Int)} (h : WRows w0 w v ws) (hc : Chg S w w') (hS : ∀ g, v.ownBlock = some g → ¬ S g) : WRows w0 w' v ws := by
  obtain ⟨SVs, h1, h2⟩ := h
  exact ⟨SVs, own_chg h1 hc hS, h2⟩
theorem WRows.lt {w0 w : World} {v : Value} {ws : List (List Int)} (h : WRows w0 w v ws) (g : Nat) (hg : v.ownBlock = some g) : g < w.heap.size := by
  obtain ⟨SVs, h1, _⟩ := h
  exact own_lt h1 g hg
theorem WRows.rows {w0 w : World} {v : Value} {ws : List (List Int)} (h : WRows w0 w v ws) (hc : Chg NoB w0 w) : ∃ A c, v = .slice A ws.length c ∧ Log.Rows w A ws := by
  obtain ⟨SVs, hown, h2⟩ := h
  obtain ⟨A, c, hv, hcl⟩ := own_cells hown
  refine ⟨A, c, hv, fun j hj => ?_⟩
  obtain ⟨B, cB, e1, e2⟩ := h2 j hj
  obtain ⟨ad, e, hcell⟩ := hcl j _ e1
  exact ⟨ad, B, cB, e, hcell, e2.chg hc (fun _ _ _ x => x)⟩
theorem WRows.snoc {w0 w' : World} {v' : Value} {ws : List (List Int)} {SVs : List Value} {B : Option Addr} {c : Nat} {p : List Int}
    (hlen : SVs.length = ws.length) (h2 : ∀ j, j < ws.length → ∃ B c, SVs[j]? = some (.slice B (ws.getD j []).length c) ∧ Rd w0 .u8 B (ws.getD j [])) (hp : Rd w0 .u8 B p) (h' : w'.ownsRow w0.heap.size 31 1 v' (ws.length + 1) (SVs ++ [.slice B p.length c])) : WRows w0 w' v' (ws ++ [p]) := by
  refine ⟨_, by rw [List.length_append, List.length_singleton]; exact h', fun j hj => ?_⟩
  rw [List.length_append, List.length_singleton] at hj
  rw [getD_snoc]
  by_cases c1 : j = ws.length
  · subst c1
    rw [if_pos rfl]
    exact ⟨B, c, by rw [List.getElem?_append_right (by omega), hlen]; simp, hp⟩
  · rw [if_neg c1]
    obtain ⟨B', c', e1, e2⟩ := h2 j (by omega)
    exact ⟨B', c', by rw [List.getElem?_append_left (by omega)]; exact e1, e2⟩
theorem save_long (P : Option Addr) (gen : Int) (A : Option Addr) (len c : Nat) (w : World) (h : 960 < len) :
    Calls Try.prog 14 #[.pointer P, .int .u32 gen, .slice A len c] w fun e w' => e = .returned (.int .i64 1) ∧ w = w' := by
  cases P with
  | none =>
    clear h
    go_enter Try.func14, Try.ntmps14
    go_wp2_with fail
    go_ret
    exact ⟨rfl, rfl⟩
  | some ad =>
    go_enter Try.func14, Try.ntmps14
    go_wp2_with fail
    go_ret
    exact ⟨rfl, rfl⟩
theorem jreb_long {w0 w : World} {j d : Nat} {ρ : Nat → Nat} {s : DSt} {gen n : Int} {br : Bool} (h : JL w0 w j d ρ s gen n br) (V : Option Addr) (len c : Nat) (hl : 960 < len) : Calls Try.prog 24 #[.pointer (some ⟨j, 0, none⟩), .slice V len c] w fun e w' => e = .returned (.int .i64 1) ∧ JL w0 w' j d ρ s gen n br ∧ Chg NoB w w' := by
  obtain ⟨c0, c1, c2, c3⟩ := h.2.1.four
  have H := Lib.hid h
  have sb := save_long (some ⟨d, 0, none⟩) (IntKind.u32.wrap (gen + 1)) V len c w.drew hl
  clear h c2 c3
  go_enter Try.func24, Try.ntmps24
  go_wp2_with fail
  go_region_held3 (fun w' => w'.cell? ⟨j, 0, none⟩ = some (.pointer (some ⟨d, 0, none⟩)) ∧ w'.cell? ⟨j, 1, none⟩ = some (.int .u32 gen)) (first | go_keep | exact ⟨c0, c1⟩)
    (first | (go_at_call 14; ((with_reducible refine sb.mono ?_); rintro e w4 ⟨rfl, rfl⟩)))
  go_wp2_with fail
  go_ret
  exact ⟨rfl, H.out.keep ((Chg.refl NoB w).drew), (Chg.refl NoB w).drew⟩
structure ActV where
  base : Bool
  A : Option Addr
  len : Nat
  cap : Nat
  zs : List Int
def actCells (x : ActV) : List Value := [.bool x.base, .slice x.A x.len x.cap]
def ActAt (w : World) (ad : Addr) (i : Nat) (x : ActV) : Prop := (∀ j v, (actCells x)[j]? = some v → w.cell? (ad.add (i * 2 + j)) = some v) ∧ IsRow .u8 w x.A x.len x.cap x.zs
def IsActs (w : World) (A : Option Addr) (len cap : Nat) (X : Nat → ActV) : Prop := (A = none ∧ len = 0 ∧ cap = 0) ∨ ∃ ad, A = some ad ∧ len ≤ cap ∧ cap ≤ maxLen ∧ ∀ i, i < len → ActAt w ad i (X i)
section
variable {H : Type} {enc : TypeId × Value → H} {w : World} {base : Nat} {spare : Nat → Bool} {held : Bool}
theorem act_of (l : List Value) (n : Nat) (hl : l.length = 2) (hsp : ∀ b, spare b = true)
    (h0 : ∃ y, DataW.trod enc Try.prog w base spare held n 4 ((l.drop 0).take (Try.prog.cellsOf 4)) = some y) (h1 : ∃ y, DataW.trod enc Try.prog w base spare held n 31 ((l.drop 1).take (Try.prog.cellsOf 31)) = some y) :
    ∃ x : ActV, l = actCells x ∧ IsRow .u8 w x.A x.len x.cap x.zs := by
  rw [show Try.prog.cellsOf 4 = 1 by kernel_rfl] at h0
  rw [show Try.prog.cellsOf 31 = 1 by kernel_rfl] at h1
  match l, hl with
  | [c0, c1], _ =>
    obtain ⟨y0, h0⟩ := h0
    obtain ⟨y1, h1⟩ := h1
    obtain ⟨b0, e0, -⟩ := DataW.trod_bool Try.underlying4 h0
    obtain ⟨A, le, ca, zs, e4, hr⟩ := row_of_trod (v := c1) Try.underlying31 Try.underlying5 (by kernel_rfl) (by simpa using h1) hsp
    have f0 : c0 = .bool b0 := by simpa using e0
    exact ⟨⟨b0, A, le, ca, zs⟩, by rw [f0, e4]; rfl, hr⟩
theorem acts_open {fuel : Nat} {x : DataW H × List MemPlace} {a : Option Addr} {len cap : Nat} (h : DataW.trod enc Try.prog w base spare held fuel 59 [.slice a len cap] = some x) (hsp : ∀ b, spare b = true) : ∃ X, IsActs w a len cap X := by
  have hc : Try.prog.cellsOf 61 = 2 := by kernel_rfl
  rcases open_elems Try.underlying59 Try.underlying61 h with hcs | ⟨ad, l, c, hcs, hl, hm, hi⟩
  · simp at hcs
    obtain ⟨rfl, rfl, rfl⟩ := hcs
    exact ⟨fun _ => ⟨false, none, 0, 0, []⟩, .inl ⟨rfl, rfl, rfl⟩⟩
  · simp at hcs
    obtain ⟨rfl, rfl, rfl⟩ := hcs
    have each : ∀ i, ∃ x : ActV, i < len → ActAt w ad i x := by
      intro i
      by_cases hil : i < len
      · obtain ⟨cs, n, hcl, hat, hf⟩ := hi i hil
        rw [hc] at hcl hat
        obtain ⟨x, e, hr⟩ := act_of (enc := enc) (w := w) (base := base) (spare := spare) (held := held) cs n hcl hsp (hf 0 _ rfl) (hf 1 _ rfl)
        exact ⟨x, fun _ => ⟨fun j v hj => hat j v (by rw [e]; exact hj), hr⟩⟩
      · exact ⟨⟨false, none, 0, 0, []⟩, fun h => absurd h hil⟩
    exact ⟨fun i => (each i).choose, .inr ⟨ad, rfl, hl, hm, fun i hil => (each i).choose_spec hil⟩⟩
end
theorem ActAt.two {w : World} {ad : Addr} {i : Nat} {x : ActV} (h : ActAt w ad i x) : w.cell? (ad.add (i * 2)) = some (.bool x.base) ∧ w.cell? ⟨(ad.add (i * 2)).block, (ad.add (i * 2)).off + 1, none⟩ = some (.slice x.A x.len x.cap) := by
  have h0 := h.1 0 _ rfl
  have h1 := h.1 1 _ rfl
  have e : ∀ k, 0 < k → ad.add (i * 2 + k) = ⟨(ad.add (i * 2)).block, (ad.add (i * 2)).off + k, none⟩ := fun k hk => by
    unfold Addr.add
    by_cases c : i * 2 = 0
    · have c2 : ¬ (i * 2 + k = 0) := by omega
      rw [if_neg c2, if_pos c]; simp [c]
    · have c2 : ¬ (i * 2 + k = 0) := by omega
      rw [if_neg c2, if_neg c]; simp [Nat.add_assoc]
  rw [e 1 (by decide)] at h1
  exact ⟨h0, h1⟩
end Go.Proofs.Ytmonkoclbcahiaa.Jour

namespace Go.Proofs.Ytmonkoclbcahiaa.Jour
open Go.RowKit Go.Proofs.Ytmonkoclbcahiaa.Hp Go.Proofs.Ytmonkoclbcahiaa.By Go.Proofs.Ytmonkoclbcahiaa.Disk Go.Proofs.Ytmonkoclbcahiaa.Word Go.Proofs.Ytmonkoclbcahiaa.WordP Go.Proofs.Ytmonkoclbcahiaa.Log Go.Proofs.Ytmonkoclbcahiaa.Slot
set_option linter.unusedVariables false
set_option linter.unusedSimpArgs false
def InV (w : World) (v : Value) (L : List Int) : Prop := ∃ A c, v = .slice A L.length c ∧ Rd w .u8 A L
/-- all that is known at a round's start -/
def JpS (w0 wr : World) (j d : Nat) (bv lv : Value) (m : Nat) (ρ : Nat → Nat) (s : DSt) (f : Nat → List Int) (gen : Int) (bs : List Int) (ws : List (List Int)) : Prop :=
  JL w0 wr j d ρ s gen ws.length false ∧ (Firm s f ∧ LenF f) ∧ Disk.Calm s ∧ Two f gen bs ∧ LogOk f gen ws ∧ gen ≤ m ∧ InV w0 bv bs ∧ WRows w0 wr lv ws ∧ ∀ g, lv.ownBlock = some g → ρ g = 0 ∧ g ≠ j
def JpB (w0 : World) (j d N : Nat) (bv lv i : Value) (wr : World) : Prop :=
  ∃ (m : Nat) (ρ : Nat → Nat) (s : DSt) (f : Nat → List Int) (gen : Int) (bs : List Int) (ws : List (List Int)), m ≤ N ∧ i = .int .i64 m ∧ JpS w0 wr j d bv lv m ρ s f gen bs ws
theorem JpS.keep {w0 wr w' : World} {j d : Nat} {bv lv : Value} {m : Nat} {ρ : Nat → Nat} {s : DSt} {f : Nat → List Int} {gen : Int} {bs : List Int} {ws : List (List Int)} (h : JpS w0 wr j d bv lv m ρ s f gen bs ws) (hc : Chg NoB wr w') : JpS w0 w' j d bv lv m ρ s f gen bs ws := by
  obtain ⟨a, b, c, e, f1, g, h1, h2, h3⟩ := h
  exact ⟨a.keep hc, b, c, e, f1, g, h1, h2.chg hc (fun _ _ x => x), h3⟩
theorem JpS.up {w0 wr : World} {j d : Nat} {bv lv : Value} {m : Nat} {ρ : Nat → Nat} {s : DSt} {f : Nat → List Int} {gen : Int} {bs : List Int} {ws : List (List Int)} (h : JpS w0 wr j d bv lv m ρ s f gen bs ws) : JpS w0 wr j d bv lv (m + 1) ρ s f gen bs ws := by
  obtain ⟨a, b, c, e, f1, g, h1, h2, h3⟩ := h
  exact ⟨a, b, c, e, f1, by push_cast; omega, h1, h2, h3⟩
/-- a Rebase, played -/
def RebTo (w0 w : World) (j d : Nat) (lv : Value) (m : Nat) (ρ : Nat → Nat) (gen : Int) (ws : List (List Int)) (V : Value) (l : List Int) (e : Ending) (w' : World) : Prop :=
  e = .returned (.int .i64 0) ∧ ∃ ρ' s' f', JpS w0 w' j d V (.slice none 0 0) (m + 1) ρ' s' f' (gen + 1) l [] ∧ Chg (fun i => Own ρ i ∨ i = j) w w'
theorem reb_play {w0 wr : World} {j d : Nat} {bv lv : Value} {m : Nat} {ρ : Nat → Nat} {s : DSt} {f : Nat → List Int} {gen : Int} {bs : List Int} {ws : List (List Int)} (h : JpS w0 wr j d bv lv m ρ s f gen bs ws) (hm : m ≤ 1000) (A : Option Addr) (c : Nat) (l : List Int) (hl : l.length ≤ 960) (hr : Rd w0 .u8 A l) (hcap : l.length ≤ c) (hb : Bytes l) :
    Calls Try.prog 24 #[.pointer (some ⟨j, 0, none⟩), .slice A l.length c] wr (RebTo w0 wr j d lv m ρ gen ws (.slice A l.length c) l) := by
  obtain ⟨hJ, hF, hc, hT, hL, hg, _, _, _⟩ := h
  have g0 := hT.1
  refine (jreb_any hJ hF.1.1 A c l g0 (by omega) hl (hr.chg hJ.1.ch (fun _ _ _ x => x)) (fun hp ad e x => by
    have q1 := hr.lt hp ad e
    have q2 := hJ.1.nw _ x
    omega) hcap hb).mono ?_
  rintro e w' ⟨E, s', rfl, hS, ρ', hJ', hC, _⟩
  obtain ⟨rfl, hs', _⟩ := save_calm (firm_says hF.1 hc) hl hS
  rw [if_pos rfl, if_pos rfl, if_pos rfl] at hJ'
  have hf := (saves_firm hF.1 hF.2 hl hS).1 rfl
  exact ⟨rfl, ρ', s', _, ⟨hJ', ⟨hf, lenF_saved hF.2 _ _⟩, hs'.1, two_next hT (by omega) hl, log_next g0 hL (fun k hk => saved_low f (gen + 1) l k hk), by push_cast; omega, ⟨A, c, rfl, hr⟩, WRows.nil _ _, fun g hg => by simp [Value.ownBlock] at hg⟩, hC⟩
/-- an Append, played -/
def AppTo (w0 w : World) (j d : Nat) (bv : Value) (m : Nat) (ρ : Nat → Nat) (gen : Int) (bs : List Int) (ws : List (List Int)) (l : List Int) (e : Ending) (w' : World) : Prop :=
  e = .returned (.int .i64 0) ∧ ∃ ρ' s' f', (JL w0 w' j d ρ' s' gen (ws.length + 1) false ∧ (Firm s' f' ∧ LenF f') ∧ Disk.Calm s' ∧ Two f' gen bs ∧ LogOk f' gen (ws ++ [l])) ∧ Chg (fun i => Own ρ i ∨ i = j) w w' ∧ ∀ i, i < w.heap.size → ρ i = 0 → ρ' i = 0
theorem app_play {w0 wr : World} {j d : Nat} {bv lv : Value} {m : Nat} {ρ : Nat → Nat} {s : DSt} {f : Nat → List Int} {gen : Int} {bs : List Int} {ws : List (List Int)} (h : JpS w0 wr j d bv lv m ρ s f gen bs ws) (hm : m ≤ 1000) (A : Option Addr) (c : Nat) (l : List Int) (hl : l.length ≤ 50) (hw : ws.length < 64) (hr : Rd w0 .u8 A l) (hb : Bytes l) :
    Calls Try.prog 23 #[.pointer (some ⟨j, 0, none⟩), .slice A l.length c] wr (AppTo w0 wr j d bv m ρ gen bs ws l) := by
  obtain ⟨hJ, hF, hc, hT, hL, hg, _, _, _⟩ := h
  have g0 := hT.1
  have hsl := secL_len gen (ws.length : Int) l hl
  have hs := firm_says hF.1 hc
  obtain ⟨a1, a2⟩ := says_app hs ws.length (by omega) (secL gen ws.length l) hsl
  have a3 := app_firmly hs ws.length (by omega) (secL gen ws.length l) hsl
  refine (japp_any hJ A c l g0 (by omega) (by omega) (by omega) hl (hr.chg hJ.1.ch (fun _ _ _ x => x)) hb).mono ?_
  rintro e w' ⟨rfl, ρ', hJ', hC, hz⟩
  rw [a1] at hJ' ⊢
  rw [if_pos rfl] at hJ'
  refine ⟨rfl, ρ', _, _, ⟨hJ', ⟨a3, fun k => ?_⟩, a2.1, two_congr hT (fun k k1 k2 => if_neg (by omega)), log_app hL l hl hw⟩, hC, hz⟩
  show (if k = ws.length then secL gen ws.length l else f k).length = 64
  by_cases ck : k = ws.length
  · rw [if_pos ck]; exact hsl
  · rw [if_neg ck]; exact hF.2 k
end Go.Proofs.Ytmonkoclbcahiaa.Jour

namespace Go.Proofs.Ytmonkoclbcahiaa.Jour
open Go.RowKit Go.Proofs.Ytmonkoclbcahiaa.Hp Go.Proofs.Ytmonkoclbcahiaa.By Go.Proofs.Ytmonkoclbcahiaa.Disk Go.Proofs.Ytmonkoclbcahiaa.Word Go.Proofs.Ytmonkoclbcahiaa.WordP Go.Proofs.Ytmonkoclbcahiaa.Log Go.Proofs.Ytmonkoclbcahiaa.Slot
set_option linter.unusedVariables false
set_option linter.unusedSimpArgs false
section
variable {P : Program} {ops : Array Oper} {rest : List Oper} {o : Oper} {a : Act} {Q : Exit → Act → World → Prop}
/-- where the row lies behind an append: where it lay, or new -/
theorem run_append_where (w : World) (base : Nat) (t ty e : TypeId) (i : TypeInfo) (z : Value) (size bytes : Nat) (ht : P.underlying t = some (.slice e)) (hi : P.info? e = some i) (hz : i.zero = some z)
    (hsize : i.size = size) (hby : i.bytes = bytes) (hzs : z.cells.size = size) (hsz : 0 < size) (v : Value) (n : Nat) (xs : List Value) (hown : w.ownsRow base e size v n xs)
    (ad : Addr) (m c : Nat) (news : List Value) (hl : news.length = m * size) (hnews : ∀ j u, news[j]? = some u → w.cell? (ad.add j) = some u) (h1 : ∀ u ∈ news, u.oneCell' = true)
    (h63 : n + m ≤ maxLen) (hbytes : (n + m) * bytes ≤ 140737488355328) :
    ∀ v' w', (Builtin.append_ #[t, t] ty #[v, .slice (some ad) m c]).run P w = .ok v' w' → ∀ g, v'.ownBlock = some g → v.ownBlock = some g ∨ w.heap.size ≤ g := by
  subst hsize
  subst hby
  have hsmall : n + m ≤ 9223372036854775807 := by simp only [maxLen] at h63; omega
  intro v' w' hrun g hg
  rcases hown.2 with ⟨rfl, rfl⟩ | ⟨g0, cap, cur, rfl, hbg, hcur, hnc, hcm, hcs, htake⟩
  · by_cases hm : m = 0
    · subst hm
      have hn : news = [] := List.eq_nil_of_length_eq_zero (by simpa using hl)
      subst hn
      have e0 : (Builtin.append_ #[t, t] ty #[.slice none 0 0, .slice (some ad) 0 c]).run P w = .ok (.slice none 0 0) w := by
        simp [Builtin.append_, run_underlying ht, sizeOf, typeInfo, hi, Builtin.lenOf, Builtin.firstCells, loadCells, loadCellsFrom]
      rw [e0] at hrun
      injection hrun with a1 a2
      subst a1
      simp [Value.ownBlock] at hg
    · have hr := run_append_nil (P := P) w t ty e i z ht hi hz ad m c news hl hnews (by omega) (by omega) (by have hb := hbytes; simp only [Nat.zero_add] at hb; omega)
      rw [hr] at hrun
      injection hrun with a1 a2
      subst a1
      simp [Value.ownBlock] at hg
      right; omega
  · by_cases hroom : n + m ≤ cap
    · have hfit : n * i.size + news.length ≤ cur.size := by rw [hl, hcs, ← Nat.add_mul]; exact Nat.mul_le_mul_right _ hroom
      have hr := run_append_room (P := P) w t ty e i ht hi g0 n cap cur hcur ad m c news hl hnews h1 hroom hfit
      rw [hr] at hrun
      injection hrun with a1 a2
      subst a1
      simp [Value.ownBlock] at hg
      left; simp [Value.ownBlock]; omega
    · have holds : ∀ j u, xs[j]? = some u → w.cell? ((⟨g0, 0, none⟩ : Addr).add j) = some u := hown.cells (g := g0) rfl
      have hr := run_append_grow (P := P) w t ty e i z ht hi hz ⟨g0, 0, none⟩ n cap xs hown.1 holds ad m c news hl hnews (by omega) (by omega) (growslice_fits (by omega) hbytes)
      rw [hr] at hrun
      injection hrun with a1 a2
      subst a1
      simp [Value.ownBlock] at hg
      right; omega
/-- an append onto a row of the call's own: where the row lies then is told too -/
theorem append_own3 {w : World} {base : Nat} (hgd : o.guard = none) (s x : Operand) (t e : TypeId) (ho : o.op = .call { callee := .builtin .append, args := #[s, x], argTypes := #[t, t] })
    (z : Value) (bytes : Nat) (ht : P.underlying t = some (.slice e)) (hinfo : (P.info? e).map (fun i => (i.zero, i.size, i.bytes)) = some (some z, 1, bytes)) (hz : z.cells.size = 1)
    (v : Value) (n : Nat) (xs : List Value) (hs : a.eval s = v) (hbase : base ≤ w.heap.size) (hown : w.ownsRow base e 1 v n xs) (u : Value) (T : TypeId) (hx : a.eval x = .slice (some ⟨w.heap.size, 0, none⟩) 1 1) (hu : u.oneCell' = true)
    (h1 : n + 1 ≤ 9223372036854775807) (h2 : (n + 1) * bytes ≤ 140737488355328)
    (h : ∀ v' w', w'.ownsRow base e 1 v' (n + 1) (xs ++ [u]) → Chg (fun i => v.ownBlock = some i) w w' → (∀ g, v'.ownBlock = some g → v.ownBlock = some g ∨ w.heap.size ≤ g) → wpList P ops Q rest (a.put o.dst v') w') :
    wpList P ops Q (o :: rest) a (w.alloc (.cells #[u] T)) := by
  obtain ⟨i0, hi, hz0, hz1, hz2⟩ := info_parts hinfo
  have hb : Blk (w.alloc (.cells #[u] T)) w.heap.size #[u] T := bnew w _
  have hnews : ∀ j u', ([u] : List Value)[j]? = some u' → (w.alloc (.cells #[u] T)).cell? ((⟨w.heap.size, 0, none⟩ : Addr).add j) = some u' := by
    intro j u' hj
    have : j = 0 := by
      have := (List.getElem?_eq_some_iff.1 hj).1
      simp at this; omega
    subst this
    have e : (⟨w.heap.size, 0, none⟩ : Addr).add 0 = ⟨w.heap.size, 0, none⟩ := rfl
    rw [e, bcell hb 0]
    simpa using hj
  have hone : ∀ u' ∈ ([u] : List Value), u'.oneCell' = true := by
    intro u' hu'
    have : u' = u := by simpa using hu'
    subst this; exact hu
  obtain ⟨v', w', hr, h4, h5, _⟩ := run_append_own (P := P) (w.alloc (.cells #[u] T)) base t o.type e i0 z 1 bytes ht hi hz0 hz1 hz2 hz (by decide) v n xs (hown.alloc _) ⟨w.heap.size, 0, none⟩ 1 1 [u] rfl hnews hone (by unfold maxLen; omega) h2 (by simp; omega)
  have hw := run_append_where (P := P) (w.alloc (.cells #[u] T)) base t o.type e i0 z 1 bytes ht hi hz0 hz1 hz2 hz (by decide) v n xs (hown.alloc _) ⟨w.heap.size, 0, none⟩ 1 1 [u] rfl hnews hone (by unfold maxLen; omega) h2 v' w' hr
  refine wpList_plain hgd fun _ hK => ?_
  unfold Oper.wp execOp
  simp only [ho, resolve, invoke, builtin, Sem.run_bind, Sem.run_pure, Result.andThen_ok, List.map_toArray, List.map_cons, List.map_nil, hs, hx, hr]
  refine hK _ _ (h v' w' h4 (((Chg.refl _ w).alloc _).trans (Chg.of_grownBy h5 (fun j hj => .inl hj)) (fun _ _ x => x)) (fun g hg => ?_))
  rcases hw g hg with x | x
  · exact .inl x
  · right; simp at x; omega
end
theorem jb_lt {w0 w : World} {j d : Nat} {ρ : Nat → Nat} {s : DSt} {gen n : Int} {br : Bool} (h : JL w0 w j d ρ s gen n br) : j < w.heap.size ∧ ρ w.heap.size = 0 := by
  refine ⟨blt (show Blk w j _ _ from h.2.1), ?_⟩
  obtain ⟨_, _, _, _, _, _, _, hp⟩ := h.1.at_
  exact hp.rz _ (Nat.le_refl _)
end Go.Proofs.Ytmonkoclbcahiaa.Jour
