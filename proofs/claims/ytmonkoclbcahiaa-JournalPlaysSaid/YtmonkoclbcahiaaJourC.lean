/- Chapter 6: answers; JournalNone. -/
import Derived.Test.YtmonkoclbcahiaaJourB
namespace Go.Proofs.Ytmonkoclbcahiaa.Jour
open Go.RowKit Go.Proofs.Ytmonkoclbcahiaa.Hp Go.Proofs.Ytmonkoclbcahiaa.By Go.Proofs.Ytmonkoclbcahiaa.Disk Go.Proofs.Ytmonkoclbcahiaa.Word Go.Proofs.Ytmonkoclbcahiaa.WordP Go.Proofs.Ytmonkoclbcahiaa.Log Go.Proofs.Ytmonkoclbcahiaa.Slot
set_option linter.unusedVariables false
set_option linter.unusedSimpArgs false
theorem says_app {s : DSt} {f : Nat → List Int} (h : Says s f) (n : Nat) (hn : n < 192) (S : List Int) (hS : S.length = 64) : appE s (n : Int) S = 0 ∧ Says (appS s (n : Int) S) (fun j => if j = n then S else f j) := by
  obtain ⟨a1, a2⟩ := says_wr h n hn S hS
  obtain ⟨b1, b2, _⟩ := says_fl a2
  unfold appE appS
  rw [hS, if_pos a1, if_pos a1]
  exact ⟨b1, b2⟩
theorem load_congr {f f' : Nat → List Int} (h : ∀ j, 64 ≤ j → j < 96 → f j = f' j) : loadOf f = loadOf f' := by
  unfold loadOf
  rw [one_congr (f := f) (f' := f') (w := 0) (fun j a b => h j (by omega) (by omega)), one_congr (f := f) (f' := f') (w := 1) (fun j a b => h j (by omega) (by omega))]
theorem sum_zero : recOf (List.replicate 64 (0 : Int)) 0 0 = none := by decide +kernel
theorem saved_low (f : Nat → List Int) (gen : Int) (l : List Int) (j : Nat) (hj : j < 64) : savedF f gen l j = f j := by
  unfold savedF
  rcases aN_rng gen with ⟨a, b⟩ | ⟨a, b⟩
  · rw [if_neg (by omega), if_neg (by omega)]
  · rw [if_neg (by omega), if_neg (by omega)]
/-- how many records, where it is known what the sectors say -/
theorem stop_at {s : DSt} {f : Nat → List Int} {gen : Int} {k : Nat} (hs : Says s f) (hk : k ≤ 64) (q1 : ∀ j : Nat, j < k → (recOf (s.get (j : Int)) gen j).isSome = true) (q2 : k = 64 ∨ recOf (s.get (k : Int)) gen k = none) (n : Nat) (hn : n ≤ 64) (h1 : ∀ j, j < n → (recOf (f j) gen j).isSome = true) (h2 : n = 64 ∨ recOf (f n) gen n = none) : k = n :=
  stop_eq (f := fun j => s.get (j : Int)) hk hn q1 q2 (fun j hj => by show (recOf (s.get (j : Int)) gen j).isSome = true; rw [hs.2.2]; exact h1 j hj) (by
    rcases h2 with h2 | h2
    · exact .inl h2
    · right; show recOf (s.get (n : Int)) gen n = none; rw [hs.2.2]; exact h2)
/-- one byte, written in the text -/
theorem one_const (w1 : World) (b : Int) : Rd (w1.alloc (.cells #[.int .u8 b] 5 (1, 2))) .u8 (some ⟨w1.heap.size, 0, none⟩) [b] := ⟨by simp, fun _ => ⟨_, rfl, fun j hj => by
  have : j = 0 := by simpa using hj
  subst this
  rw [add0]
  exact (World.cell?_alloc_mark w1 #[.int .u8 b] 5 (1, 2) 0).trans rfl⟩⟩
set_option maxRecDepth 100000 in
set_option maxHeartbeats 2000000 in
theorem answers6 (w0 : World) : Calls Try.prog 22 #[] w0 (True1 w0) := by
  go_enter Try.func22, Try.ntmps22
  go_wp2_with fail
  refine (l_new 192 (by omega) (by omega) w0).mono ?_
  rintro e w1 ⟨d, ρ, rfl, h⟩
  have ho := jopen_any h says_new
  clear h
  go_wp2_with fail
  refine ho.mono ?_
  rintro e w2 ⟨j, vb, A, k, c, rfl, hJ, _, _, _, hk, q1, q2, _, _⟩
  rw [load_zero] at hJ q1 q2
  have hk0 : k = 0 := stop_at says_new hk q1 q2 0 (by omega) (fun j hj => by omega) (.inr sum_zero)
  subst hk0
  have hc0 := Lib.run_convert_bytes_const (P := Try.prog) w2 31 5 #[.int .u8 98] 1 1 Try.underlying31 Try.underlying5
  have hz : ρ w2.heap.size = 0 := by
    obtain ⟨_, _, _, _, _, _, _, hp⟩ := hJ.1.at_
    exact hp.rz _ (Nat.le_refl _)
  have hrb := jreb_any (hJ.keep ((Chg.refl NoB w2).alloc (.cells #[.int .u8 98] 5 (1, 2)))) rfl (some ⟨w2.heap.size, 0, none⟩) 1 [98] (by decide) (by decide) (by decide) (one_const w2 98) (fun _ ad e x => by
    obtain rfl := Option.some.inj e
    exact x hz) (by decide) (fun x hx => by rw [List.mem_singleton] at hx; subst hx; decide)
  simp only [List.length_cons, List.length_nil, Nat.zero_add] at hrb
  clear ho hJ q1 q2 hz hk
  go_wp2_with fail
  refine hrb.mono ?_
  rintro e w3 ⟨E, s2, rfl, hS, ρ3, hJ3, _, _⟩
  obtain ⟨rfl, hs2, _⟩ := save_calm says_new (by decide) hS
  rw [if_pos rfl, if_pos rfl, if_pos rfl] at hJ3
  replace hJ3 : JL w0 w3 j d ρ3 s2 1 0 false := hJ3
  replace hs2 : Says s2 (savedF (fun _ => List.replicate 64 0) 1 [98]) := hs2
  have hc1 := Lib.run_convert_bytes_const (P := Try.prog) w3 31 5 #[.int .u8 120] 1 1 Try.underlying31 Try.underlying5
  have hap := japp_any (hJ3.keep ((Chg.refl NoB w3).alloc (.cells #[.int .u8 120] 5 (1, 2)))) (some ⟨w3.heap.size, 0, none⟩) 1 [120] (by decide) (by decide) (by decide) (by decide) (by decide) (one_const w3 120) (fun x hx => by rw [List.mem_singleton] at hx; subst hx; decide)
  simp only [List.length_cons, List.length_nil, Nat.zero_add] at hap
  clear hrb hS hJ3 hc0
  have hl98 : loadOf (savedF (fun _ => List.replicate 64 0) 1 [98]) = (1, [98]) :=
    load_two 1 (by decide) (by decide) (one_saved _ 1 [98] (by decide) (by decide) (by decide) 1 (by decide)) (fun q hq => by
      rw [one_other _ 1 [98] (by decide) (1 - 1) (by decide) (by decide), one_zero _ (by decide)] at hq; cases hq)
  have hsl := secL_len 1 ((0 : Nat) : Int) [120] (by decide)
  obtain ⟨a1, a2⟩ := says_app hs2 0 (by decide) (secL 1 ((0 : Nat) : Int) [120]) hsl
  have hl2 : loadOf (fun i => if i = 0 then secL 1 ((0 : Nat) : Int) [120] else savedF (fun _ => List.replicate 64 0) 1 [98] i) = (1, [98]) := by
    rw [← hl98]; exact load_congr (fun i h1 h2 => if_neg (by omega))
  have k1 : ∀ i, i < 1 → (recOf ((fun i => if i = 0 then secL 1 ((0 : Nat) : Int) [120] else savedF (fun _ => List.replicate 64 0) 1 [98] i) i) 1 i).isSome = true := fun i hi => by
    obtain rfl : i = 0 := by omega
    show (recOf (secL 1 ((0 : Nat) : Int) [120]) 1 ((0 : Nat) : Int)).isSome = true
    rw [rec_sec 1 ((0 : Nat) : Int) [120] (by decide)]; rfl
  have k2 : recOf ((fun i => if i = 0 then secL 1 ((0 : Nat) : Int) [120] else savedF (fun _ => List.replicate 64 0) 1 [98] i) 1) 1 ((1 : Nat) : Int) = none := by
    show recOf (savedF (fun _ => List.replicate 64 0) 1 [98] 1) 1 ((1 : Nat) : Int) = none
    rw [saved_low _ _ _ 1 (by decide)]
    exact rec_zero (by decide)
  generalize (fun i => if i = 0 then secL 1 ((0 : Nat) : Int) [120] else savedF (fun _ => List.replicate 64 0) 1 [98] i) = F2 at a2 hl2 k1 k2
  have HA := Lib.hid (And.intro a1 (And.intro a2 (And.intro hl2 (And.intro k1 k2))))
  clear hl98 hsl a1 a2 hl2 k1 k2 hs2
  go_wp2_with fail
  refine hap.mono ?_
  rintro e w4 ⟨rfl, ρ4, hJ4, _, _⟩
  have e1 : appE s2 0 (secL 1 0 [120]) = 0 := HA.out.1
  rw [e1] at hJ4 ⊢
  rw [if_pos rfl] at hJ4
  have ho2 := jopen_any (f := F2) hJ4.1 HA.out.2.1
  clear hap hJ4 e1 hc1
  go_wp2_with fail
  refine ho2.mono ?_
  rintro e w5 ⟨j5, vb5, A5, k5, c5, rfl, hJ5, _, hv5, _, hk5, q1, q2, _, _⟩
  rw [HA.out.2.2.1] at hJ5 hv5 q1 q2
  have hk1 : k5 = 1 := stop_at HA.out.2.1 hk5 q1 q2 1 (by decide) HA.out.2.2.2.1 (.inr HA.out.2.2.2.2)
  subst hk1
  obtain ⟨Av, cv, rfl, _, hr, _, _, hfm⟩ := hv5
  obtain ⟨ad, rfl, hcell⟩ := hr.at_ 0 (by decide)
  obtain ⟨g, rfl⟩ := hfm ad rfl
  have hcv : (convert 31 9 (.slice (some ⟨g, 0, none⟩) 1 cv)).run Try.prog w5 = .ok (.string (strOfNums [98])) w5 := by
    refine run_convert_bytes_arg (P := Try.prog) w5 31 5 Try.underlying31 Try.underlying5 g 0 1 cv [98] rfl (fun i hi => ?_) 9 Try.underlying9
    obtain rfl : i = 0 := by omega
    rw [add0] at hcell
    exact hcell
  have es : strOfNums [98] = { data := #[98] } := by decide
  rw [es] at hcv
  have hln := len_any _ _ _ _ _ _ _ _ _ hJ5
  have fin : Chg NoB w0 w5 := hJ5.1.ch
  clear ho2 hJ5 hr hcell es q1 q2 hk5 HA
  go_wp2_with (first | ((with_reducible refine hln.mono ?_); rintro e w6 ⟨rfl, rfl⟩) | go_in)
  go_ret
  exact ⟨rfl, fin⟩
set_option maxRecDepth 100000 in
theorem journalNone (A : Option Addr) (len c : Nat) (w : World) : Calls Try.prog 6 #[.slice A len c] w (True1 w) := by
  have h1 := fun w => japp_nil A len c w
  have h2 := fun w => jreb_nil (.slice A len c) w
  go_enter Try.func6, Try.ntmps6
  go_wp2_with fail
  refine (jopen_nil _).mono ?_
  rintro e w1 ⟨rfl, rfl⟩
  go_wp2_with (first | ((with_reducible refine (answers6 _).mono ?_); rintro e w6 ⟨rfl, hC6⟩) | ((with_reducible refine (h1 _).mono ?_); rintro e w7 ⟨rfl, rfl⟩) | ((with_reducible refine (h2 _).mono ?_); rintro e w8 ⟨rfl, rfl⟩) | ((with_reducible refine (len_nil _).mono ?_); rintro e w9 ⟨rfl, rfl⟩) | go_in)
  go_ret
  exact ⟨rfl, hC6⟩
theorem journalNone_row (a0 : Option Addr) (len0 cap0 : Nat) (z0 : List Int) (W : World) (w0 : IsRow .u8 W a0 len0 cap0 z0) (y0 : len0 * 1 ≤ 140737488351232) :
    Calls Try.prog 6 #[.slice a0 len0 cap0] W fun e w' => e = .returned (.bool true) ∧ Below W.heap.size W w' :=
  (journalNone a0 len0 cap0 W).mono fun _ _ h => h.row
end Go.Proofs.Ytmonkoclbcahiaa.Jour
