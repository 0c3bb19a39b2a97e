/- Chapter 6: JournalBroken. -/
import Derived.Test.YtmonkoclbcahiaaJourD
namespace Go.Proofs.Ytmonkoclbcahiaa.Jour
open Go.RowKit Go.Proofs.Ytmonkoclbcahiaa.Hp Go.Proofs.Ytmonkoclbcahiaa.By Go.Proofs.Ytmonkoclbcahiaa.Disk Go.Proofs.Ytmonkoclbcahiaa.Word Go.Proofs.Ytmonkoclbcahiaa.WordP Go.Proofs.Ytmonkoclbcahiaa.Log Go.Proofs.Ytmonkoclbcahiaa.Slot
set_option linter.unusedVariables false
set_option linter.unusedSimpArgs false
theorem rows_one (W : World) (C : Option Addr) (cc : Nat) (l : List Int) (T : TypeId) (h : Rd W .u8 C l) : Log.Rows (W.alloc (.cells #[.slice C l.length cc] T)) (some ⟨W.heap.size, 0, none⟩) [l] := fun j hj => by
  have : j = 0 := by simpa using hj
  subst this
  exact ⟨_, C, cc, rfl, by rw [add0, bcell (bnew W _)]; rfl, h.chg ((Chg.refl NoB W).alloc _) (fun _ _ _ x => x)⟩
theorem failing_at {s : DSt} {f : Nat → List Int} (h : Says s f) (k : Nat) : FailsAt (s.failing (k : Int) 1) k := by
  have e : s.num = ⟨0, 0, -1, false⟩ := h.1
  refine ⟨?_, h.2.1⟩
  unfold DSt.failing
  rw [e, if_neg (by omega)]; rfl
set_option maxRecDepth 100000 in
set_option maxHeartbeats 2000000 in
theorem journalBroken (A B C : Option Addr) (ca cb cc : Nat) (a b c : List Int) (n : Int) (w : World) (n0 : 0 ≤ n) (n1 : n ≤ 255) (ra : Rd w .u8 A a) (rb : Rd w .u8 B b) (rc : Rd w .u8 C c) (pb : b.length ≤ cb) (ba : Bytes a) (bb : Bytes b) (bc : Bytes c) :
    Calls Try.prog 10 #[.slice A a.length ca, .slice B b.length cb, .slice C c.length cc, .int .u8 n] w (True1 w) := by
  by_cases hd : 50 < a.length ∨ (¬ 50 < a.length ∧ 900 < b.length) ∨ (¬ 50 < a.length ∧ ¬ 900 < b.length ∧ 50 < c.length)
  · clear ra rb rc ba bb bc pb
    rcases hd with hd | ⟨hd, he⟩ | ⟨hd, he, hf⟩
    all_goals
      go_enter Try.func10, Try.ntmps10
      go_wp2_with fail
      refine (answers6 _).mono ?_
      rintro e w1 ⟨rfl, hC⟩
      have fin : True1 w (.returned (.bool true)) w1 := ⟨rfl, hC⟩
      clear hC
      go_wp2_with fail
      go_ret
      exact fin
  · have la : a.length ≤ 50 := by omega
    have lb : b.length ≤ 900 := by omega
    have lc : c.length ≤ 50 := by omega
    obtain ⟨k, hk, hnk⟩ : ∃ k : Nat, k ≤ 2 ∧ n % 3 = (k : Int) := ⟨(n % 3).toNat, by omega, by omega⟩
    have HR := Lib.hid (And.intro ra (And.intro rb (And.intro rc (And.intro pb (And.intro ba (And.intro bb bc))))))
    clear ra rb rc pb ba bb bc hd
    go_enter Try.func10, Try.ntmps10
    go_wp2_with fail
    refine (l_new 192 (by omega) (by omega) w).mono ?_
    rintro e w1 ⟨d, ρ, rfl, h⟩
    have ho := jopen_any h says_new
    clear h
    go_wp2_with fail
    refine ho.mono ?_
    rintro e w2 ⟨j, vb, Ao, ko, co, rfl, hJ, _, _, _, hko, q1, q2, _, _⟩
    rw [load_zero] at hJ q1 q2
    have hk0 : ko = 0 := stop_at says_new hko q1 q2 0 (by omega) (fun j hj => by omega) (.inr sum_zero)
    subst hk0
    have hap := japp_any hJ A ca a (by decide) (by decide) (by decide) (by decide) la (HR.out.1.chg hJ.1.ch (fun _ _ _ x => x)) HR.out.2.2.2.2.1
    obtain ⟨a1, a2⟩ := says_app says_new 0 (by decide) (secL 0 ((0 : Nat) : Int) a) (secL_len 0 _ a la)
    have HA := Lib.hid (And.intro a1 a2)
    clear ho hJ q1 q2 a1 a2
    go_wp2_with fail
    refine hap.mono ?_
    rintro e w3 ⟨rfl, ρ3, hJ3, _, _⟩
    have e1 : appE (DSt.new 192) ((0 : Nat) : Int) (secL 0 ((0 : Nat) : Int) a) = 0 := HA.out.1
    rw [e1] at hJ3 ⊢
    rw [if_pos rfl] at hJ3
    have hs1 : Says (appS (DSt.new 192) ((0 : Nat) : Int) (secL 0 ((0 : Nat) : Int) a)) (fun i => if i = 0 then secL 0 ((0 : Nat) : Int) a else List.replicate 64 0) := HA.out.2
    clear hap e1 HA
    generalize hge : appS (DSt.new 192) ((0 : Nat) : Int) (secL 0 ((0 : Nat) : Int) a) = s1 at hJ3 hs1
    clear hge
    have hfl := l_fail (k : Int) 1 (by omega) (by omega) hJ3.1
    have HJ3 := Lib.hid (And.intro hJ3 hs1)
    clear hJ3 hs1
    go_wp2_with fail
    rw [hnk]
    refine hfl.mono ?_
    rintro e w4 ⟨rfl, h4, hC4⟩
    have hJ4 := HJ3.out.1.mk' hC4 h4 (fun _ _ x => x)
    have fa := failing_at HJ3.out.2 k
    have hget4 : ∀ i : Nat, (s1.failing (k : Int) 1).get (i : Int) = s1.get (i : Int) := fun i => rfl
    have hrb := jreb_any hJ4 fa.2 B cb b (by decide) (by decide) (by omega) (HR.out.2.1.chg h4.ch (fun _ _ _ x => x)) (fun hp ad e x => by
      have q1 := HR.out.2.1.lt hp ad e
      have q2 := h4.nw _ x
      omega) HR.out.2.2.2.1 HR.out.2.2.2.2.2.1
    have HF := Lib.hid (And.intro fa (And.intro hget4 HJ3.out.2))
    clear hfl h4 hC4 hJ4 fa hget4 HJ3 hnk
    generalize s1.failing (k : Int) 1 = sf at *
    go_wp2_with fail
    refine hrb.mono ?_
    rintro e w5 ⟨E, s2, rfl, hS, ρ5, hJ5, _, _⟩
    have hE := saves_fail HF.out.1 hk (by omega) hS
    have hc2 := saves_fail_calm HF.out.1 hk (by omega) hS
    have hg2 : ∀ i : Nat, ¬ (aN (0 + 1) ≤ i ∧ i ≤ aN (0 + 1) + 15) → s2.get (i : Int) = if i = 0 then secL 0 ((0 : Nat) : Int) a else List.replicate 64 0 := fun i hi => by
      rw [saves_get (by omega) hS i hi, HF.out.2.1]; exact HF.out.2.2.2.2 i
    have hn2 : s2.n = 192 := (saves_n hS).trans HF.out.1.2
    subst hE
    rw [if_neg (by decide), if_neg (by decide), if_neg (by decide)] at hJ5
    have hfu := japp_full w w5 j d ρ5 s2 0 (((0 : Nat) : Int) + 1) true hJ5 C c.length cc lc (.inl rfl)
    have hs2 : Says s2 (fun i => s2.get (i : Int)) := ⟨hc2, hn2, fun _ => rfl⟩
    have hrb2 := jreb_any hJ5 hn2 B cb b (by decide) (by decide) (by omega) (HR.out.2.1.chg hJ5.1.ch (fun _ _ _ x => x)) (fun hp ad e x => by
      have q1 := HR.out.2.1.lt hp ad e
      have q2 := hJ5.1.nw _ x
      omega) HR.out.2.2.2.1 HR.out.2.2.2.2.2.1
    have H2 := Lib.hid (And.intro hs2 hg2)
    clear hrb hS hJ5 hc2 hg2 hn2 hs2 HF
    go_wp2_with fail
    refine hfu.mono ?_
    rintro e w6 ⟨rfl, rfl⟩
    clear hfu
    go_wp2_with fail
    refine hrb2.mono ?_
    rintro e w7 ⟨E, s3, rfl, hS, ρ7, hJ7, _, _⟩
    obtain ⟨rfl, hs3, _⟩ := save_calm H2.out.1 (by omega) hS
    rw [if_pos rfl, if_pos rfl, if_pos rfl] at hJ7
    replace hJ7 : JL w w7 j d ρ7 s3 1 0 false := hJ7
    replace hs3 : Says s3 (savedF (fun i => s2.get (i : Int)) 1 b) := hs3
    have hap := japp_any hJ7 C cc c (by decide) (by decide) (by decide) (by decide) lc (HR.out.2.2.1.chg hJ7.1.ch (fun _ _ _ x => x)) HR.out.2.2.2.2.2.2
    obtain ⟨a1, a2⟩ := says_app hs3 0 (by decide) (secL 1 ((0 : Nat) : Int) c) (secL_len 1 _ c lc)
    have a3 := app_firmly hs3 0 (by decide) (secL 1 ((0 : Nat) : Int) c) (secL_len 1 _ c lc)
    have hl2 : loadOf (fun i => if i = 0 then secL 1 ((0 : Nat) : Int) c else savedF (fun i => s2.get (i : Int)) 1 b i) = (1, b) := by
      have e1 : loadOf (savedF (fun i => s2.get (i : Int)) 1 b) = (1, b) := load_saved (by decide) (by decide) (by omega) 1 (by decide) (by decide) (fun q hq => by
        have hz : oneOf (fun i => s2.get (i : Int)) (1 - 1) = none := one_zeros (by decide) (by
          show s2.get ((64 : Nat) : Int) = _
          rw [H2.out.2 64 (by have : aN (0 + 1) = 80 := by decide
                              omega)]; rfl)
        rw [hz] at hq; cases hq)
      rw [← e1]; exact load_congr (fun i h1 h2 => if_neg (by omega))
    have k1 : ∀ i, i < 1 → (recOf ((fun i => if i = 0 then secL 1 ((0 : Nat) : Int) c else savedF (fun i => s2.get (i : Int)) 1 b i) i) 1 i).isSome = true := fun i hi => by
      obtain rfl : i = 0 := by omega
      show (recOf (secL 1 ((0 : Nat) : Int) c) 1 ((0 : Nat) : Int)).isSome = true
      rw [rec_sec 1 ((0 : Nat) : Int) c lc]; rfl
    have k0 : recOf ((fun i => if i = 0 then secL 1 ((0 : Nat) : Int) c else savedF (fun i => s2.get (i : Int)) 1 b i) 0) 1 ((0 : Nat) : Int) = some c := rec_sec 1 ((0 : Nat) : Int) c lc
    have k2 : recOf ((fun i => if i = 0 then secL 1 ((0 : Nat) : Int) c else savedF (fun i => s2.get (i : Int)) 1 b i) 1) 1 ((1 : Nat) : Int) = none := by
      show recOf (savedF (fun i => s2.get (i : Int)) 1 b 1) 1 ((1 : Nat) : Int) = none
      rw [saved_low _ _ _ 1 (by decide), H2.out.2 1 (by have : aN (0 + 1) = 80 := by decide
                                                        omega)]
      exact rec_zero (by decide)
    generalize (fun i => if i = 0 then secL 1 ((0 : Nat) : Int) c else savedF (fun i => s2.get (i : Int)) 1 b i) = F4 at a2 a3 hl2 k0 k1 k2
    have HA := Lib.hid (And.intro a1 (And.intro a3 (And.intro hl2 (And.intro k0 (And.intro k1 k2)))))
    clear hrb2 hS hJ7 hs3 H2 a1 a2 a3 hl2 k0 k1 k2
    go_wp2_with fail
    refine hap.mono ?_
    rintro e w8 ⟨rfl, ρ8, hJ8, _, _⟩
    have e1 : appE s3 0 (secL 1 0 c) = 0 := HA.out.1
    have e2 : Firm (appS s3 0 (secL 1 0 c)) F4 := HA.out.2.1
    rw [e1] at hJ8 ⊢
    have hcr := l_crash 0 0 (by decide) (by decide) hJ8.1
    have hs5 := crash_firm e2 0 0
    generalize (appS s3 0 (secL 1 0 c)).crash 0 0 = s5 at *
    clear hap hJ8 e1 e2
    go_wp2_with fail
    refine hcr.mono ?_
    rintro e w9 ⟨rfl, _, ρ9, h9, _⟩
    have ho2 := jopen_any h9 hs5
    have H5 := Lib.hid hs5
    clear hcr h9 hs5
    go_wp2_with fail
    refine ho2.mono ?_
    rintro e w10 ⟨j5, vb5, A5, k5, c5, rfl, hJ10, _, hv5, hL5, hk5, q1, q2, _, _⟩
    rw [HA.out.2.2.1] at hJ10 hv5 hL5 q1 q2
    have hk1 : k5 = 1 := stop_at H5.out hk5 q1 q2 1 (by decide) HA.out.2.2.2.2.1 (.inr HA.out.2.2.2.2.2)
    subst hk1
    have hrs : recs s5 1 1 = [c] := by
      rw [show (1 : Nat) = 0 + 1 from rfl, recs_snoc s5 1 0 c (by rw [H5.out.2.2]; exact HA.out.2.2.2.1)]; rfl
    rw [hrs] at hL5
    have hch := hJ10.1.ch
    obtain ⟨Av, cv, rfl, _, hrv, _⟩ := hv5
    have sm : ∀ w', Chg NoB w10 w' → Calls Try.prog 19 #[.slice Av b.length cv, .slice B b.length cb] w' (RetB true w') := fun w' hc => by
      have := same_any Av B cv cb b b w' (hrv.chg hc (fun _ _ _ x => x)) (HR.out.2.1.chg (hch.trans hc (fun _ _ x => x)) (fun _ _ _ x => x))
      rwa [decide_eq_true rfl] at this
    have sa : ∀ w', Chg NoB w10 w' → ∀ T, Calls Try.prog 29 #[.slice A5 1 c5, .slice (some ⟨w'.heap.size, 0, none⟩) 1 1] (w'.alloc (.cells #[.slice C c.length cc] T)) (RetB true (w'.alloc (.cells #[.slice C c.length cc] T))) := fun w' hc T => by
      have hL := (hL5.chg hc (fun _ x => x.elim)).chg ((Chg.refl NoB w').alloc (.cells #[.slice C c.length cc] T)) (fun _ x => x.elim)
      obtain ⟨A6, c6, ev, hR⟩ := hL.rows
      injection ev with ev1 _ _
      subst ev1
      have := sameAll_any A5 (some ⟨w'.heap.size, 0, none⟩) c5 1 [c] [c] _ hR (rows_one w' C cc c T (HR.out.2.2.1.chg (hch.trans hc (fun _ _ x => x)) (fun _ _ _ x => x))) (by simp) (by simp)
      rwa [decide_eq_true rfl] at this
    have hchh := Lib.hid hch
    clear ho2 hJ10 hL5 hrv q1 q2 hk5 HA H5 hrs HR hch
    go_wp2_with (first | ((with_reducible refine (answers6 _).mono ?_); rintro e w11 ⟨rfl, hC11⟩; have m1 := sm w11 hC11) | ((with_reducible refine m1.mono ?_); rintro e w12 ⟨rfl, hC12⟩; have m2 := sa w12 (hC11.trans hC12 (fun _ _ x => x)) 31) | ((with_reducible refine m2.mono ?_); rintro e w13 ⟨rfl, hC13⟩) | go_in)
    go_ret
    exact ⟨rfl, (((hchh.out.trans hC11 (fun _ _ x => x)).trans hC12 (fun _ _ x => x)).alloc _).trans hC13 (fun _ _ x => x)⟩
theorem u8b6 {n : Int} (h : (Lit.int .u8 n).wf = true) : 0 ≤ n ∧ n ≤ 255 := by
  simp only [Lit.wf, Bool.and_eq_true, decide_eq_true_eq] at h
  have e1 : IntKind.u8.min = 0 := rfl
  have e2 : IntKind.u8.max = 255 := rfl
  omega
theorem journalBroken_row (a1 : Option Addr) (len1 cap1 : Nat) (z1 : List Int) (a2 : Option Addr) (len2 cap2 : Nat) (z2 : List Int) (a3 : Option Addr) (len3 cap3 : Nat) (z3 : List Int) (a0 : Int) (W : World) (w1 : IsRow .u8 W a1 len1 cap1 z1) (y1 : len1 * 1 ≤ 140737488351232) (w2 : IsRow .u8 W a2 len2 cap2 z2) (y2 : len2 * 1 ≤ 140737488351232) (w3 : IsRow .u8 W a3 len3 cap3 z3) (y3 : len3 * 1 ≤ 140737488351232) (w0 : (Lit.int .u8 a0).wf = true) :
    Calls Try.prog 10 #[.slice a1 len1 cap1, .slice a2 len2 cap2, .slice a3 len3 cap3, .int .u8 a0] W fun e w' => e = .returned (.bool true) ∧ Below W.heap.size W w' := by
  obtain ⟨h1, h2, h3, h4⟩ := rd_of_row w1 (by omega)
  obtain ⟨k1, k2, k3, k4⟩ := rd_of_row w2 (by omega)
  obtain ⟨j1, j2, j3, j4⟩ := rd_of_row w3 (by omega)
  have := journalBroken a1 a2 a3 cap1 cap2 cap3 (z1.take len1) (z2.take len2) (z3.take len3) a0 W (u8b6 w0).1 (u8b6 w0).2 h1 k1 j1 (by rw [k2]; exact k3) (fun x hx => by have := u8b6 (h4 x hx); omega) (fun x hx => by have := u8b6 (k4 x hx); omega) (fun x hx => by have := u8b6 (j4 x hx); omega)
  rw [h2, k2, j2] at this
  exact this.mono fun _ _ h => h.row
end Go.Proofs.Ytmonkoclbcahiaa.Jour
