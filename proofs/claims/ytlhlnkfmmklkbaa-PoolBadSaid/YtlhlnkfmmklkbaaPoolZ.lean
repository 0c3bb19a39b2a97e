/- An act, to both: Free, Spoil, Isolate. -/
import Derived.Test.YtlhlnkfmmklkbaaPoolY
namespace Go.Proofs.Ytlhlnkfmmklkbaa.Pool
open Go.RowKit Go.Proofs.Ytlhlnkfmmklkbaa.Hp Go.Proofs.Ytlhlnkfmmklkbaa.Runs
set_option linter.unusedVariables false
set_option linter.unusedSimpArgs false
theorem bp_free {w0 w : World} {p b bi v : Nat} {S T : PS} (f : Int) (h : Both w0 w p b bi v S T) :
    Calls Try.prog 28 #[.pointer (some ⟨p, 0, none⟩), .int .i64 f] w (AnsB w0 w p b bi v (.bool (S.freeB f)) (S.free f) T) := by
  refine (free_any p b bi S.U S.Z S.I _ f w h.pl.at_).mono ?_
  intro e w1 hp
  rcases hp with ⟨g, rfl, rfl⟩ | ⟨g, rfl, h1, h2⟩
  · have E : S.freeB f = false := decide_eq_false g
    refine ⟨by rw [E], ?_, Chg.refl _ _⟩
    unfold PS.free; rw [E, if_neg (by decide)]; exact h
  · have E : S.freeB f = true := decide_eq_true g
    refine ⟨by rw [E], ?_, h2.mono (fun i _ hh => hh.elim .inl (fun x => .inr (.inl x)))⟩
    unfold PS.free; rw [E, if_pos rfl]
    have hf : f.toNat < 1024 := by
      by_cases x : 0 ≤ f ∧ f < 1024
      · omega
      · have := g.1; rw [show useD S.U f = 0 from if_neg x] at this; omega
    refine h.goP ?_ h2
    have hs := freeL_set S.U f.toNat 1 hf
    rw [if_pos rfl] at hs
    rw [hs] at h1
    exact h1
theorem bp_spoil {w0 w : World} {p b bi v : Nat} {S T : PS} (f : Int) (h : Both w0 w p b bi v S T) :
    Calls Try.prog 29 #[.pointer (some ⟨p, 0, none⟩), .int .i64 f] w (AnsB w0 w p b bi v (.bool (S.spoilB f)) (S.spoil f) T) := by
  refine (spoil_any p b bi S.U S.Z S.I _ f w h.pl.at_).mono ?_
  intro e w1 hp
  rcases hp with ⟨g, rfl, rfl⟩ | ⟨g, rfl, h1, h2⟩
  · have E : S.spoilB f = false := decide_eq_false g
    refine ⟨by rw [E], ?_, Chg.refl _ _⟩
    unfold PS.spoil; rw [E, if_neg (by decide)]; exact h
  · have E : S.spoilB f = true := decide_eq_true g
    refine ⟨by rw [E], ?_, h2.mono (fun i _ hh => hh.elim .inl (fun x => .inr (.inl x)))⟩
    unfold PS.spoil; rw [E, if_pos rfl]
    refine h.goP ?_ h2
    have hs := freeL_set S.U f.toNat 6 (by omega)
    rw [if_neg (by decide)] at hs
    rw [hs] at h1
    exact h1
theorem bp_iso {w0 w : World} {p b bi v : Nat} {S T : PS} (s : Int) (on : Bool) (h : Both w0 w p b bi v S T) :
    Calls Try.prog 27 #[.pointer (some ⟨p, 0, none⟩), .int .i64 s, .bool on] w (AnsB w0 w p b bi v (.bool (S.isoB s)) (S.iso s on) T) := by
  refine (iso_any p b bi S.U S.Z S.I _ s on w h.pl.at_).mono ?_
  intro e w1 hp
  rcases hp with ⟨g, rfl, rfl⟩ | ⟨g, rfl, h1, h2⟩
  · have E : S.isoB s = false := decide_eq_false (fun x => x g)
    refine ⟨by rw [E], ?_, Chg.refl _ _⟩
    unfold PS.iso; rw [E, if_neg (by decide)]; exact h
  · have E : S.isoB s = true := decide_eq_true g
    refine ⟨by rw [E], ?_, h2.mono (fun i _ hh => .inl hh)⟩
    unfold PS.iso; rw [E, if_pos rfl]
    exact h.goP h1 (h2.mono (fun i _ hh => .inl hh))
set_option maxRecDepth 100000 in
set_option maxHeartbeats 4000000 in
theorem do_free (w0 w : World) (p b bi v : Nat) (S : PS) (a z : Int) (on : Bool) (A : Option Addr) (c : Nat) (bad : List Int) (h : Both w0 w p b bi v S S) (hF : Rd w .i64 A bad) (ho : 0 < bad.length → Off A (fun i => w0.heap.size ≤ i)) :
    Calls Try.prog 34 #[.pointer (some ⟨p, 0, none⟩), .pointer (some ⟨v, 0, none⟩), .agg #[.int .i64 3, .int .i64 a, .int .i64 z, .bool on, .slice A bad.length c]] w (DoPost w0 p b bi v (S.free a)) := by
  have C1 := (Chg.refl NoB w).alloc (.cells #[.int .i64 3, .int .i64 a, .int .i64 z, .bool on, .slice A bad.length c] 61)
  have hB := h.keep C1
  have hbx : Blk (w.alloc (.cells #[.int .i64 3, .int .i64 a, .int .i64 z, .bool on, .slice A bad.length c] 61)) w.heap.size _ _ := bnew w _
  have g1 : w.heap.size ≠ p ∧ w.heap.size ≠ bi ∧ w.heap.size ≠ v := by
    obtain ⟨C, h3, _⟩ := h.pl.at_.st
    have := blt h3
    have := blt h.pl.at_.fr.xs
    have := h.rr.lt
    omega
  have hF1 := hF.chg C1 (fun _ ad _ x => x)
  have H := Lib.hid (And.intro hB (And.intro hbx (And.intro g1 (And.intro hF1 ho))))
  clear h hF ho C1 hB hbx g1 hF1
  by_cases fr : 0 ≤ a ∧ a < 1024
  · obtain ⟨a0, a1⟩ := fr
    have da0 : decide (0 ≤ a) = true := decide_eq_true a0
    have da1 : decide (a < 1024) = true := decide_eq_true a1
    by_cases c : 2 ≤ S.U a.toNat ∧ S.U a.toNat ≤ 5
    · have hfb : S.freeB a = true := by unfold PS.freeB PS.use useD; rw [if_pos ⟨a0, a1⟩]; exact decide_eq_true c
      have hfs : S.free a = { S with U := upd S.U a.toNat 1 } := by unfold PS.free; rw [if_pos hfb]
      have HF := Lib.hid (And.intro hfb hfs)
      have du1 : decide (2 ≤ S.U a.toNat) = true := decide_eq_true c.1
      have du2 : decide (S.U a.toNat ≤ 5) = true := decide_eq_true c.2
      clear c hfb hfs
      go_enter Try.func34, Try.ntmps34
      go_wp2_with fail
      generalize w.alloc (.cells #[.int .i64 3, .int .i64 a, .int .i64 z, .bool on, .slice A bad.length c] 61) = W at *
      generalize w.heap.size = g at *
      obtain ⟨hB, hbx, ⟨g1, g2, g3⟩, hF, ho⟩ := H.out
      obtain ⟨k0, k1, k2, k3, k4⟩ := box5 hbx
      have hcu := hB.rr.use a.toNat (by omega)
      have hfz := hB.rr.frz a.toNat
      have HB := Lib.hid hB
      clear H hB hbx hF ho
      generalize S.U a.toNat = u at *
      go_quiet ((go_at_call 53; exact Calls.quiet_of_same (used_any _ _)))
      go_wp2_with fail
      have hQ := HB.out.goR (((HB.out.rr.chg ((Chg.refl NoB W).drewN nq) (fun x => x)).setUse a.toNat (by omega) 1).chg ((Chg.refl NoB _).drew) (fun x => x)) ((Chg.set (S := (· = v)) ((Chg.refl (· = v) W).drewN nq) (p := ⟨v, a.toNat, none⟩) (.inl rfl) (.int .i64 1)).drew)
      have HQ := Lib.hid hQ
      clear hQ HB
      go_region
      go_wp2_with fail
      rw [← HF.out.2] at HQ
      have hp := bp_free a HQ.out
      rw [HF.out.1] at hp
      clear HQ HF
      refine hp.mono ?_
      rintro e w2 ⟨rfl, hB2, hC2⟩
      have post : DoPost w0 p b bi v (S.free a) (.returned (.bool true)) w2 := ⟨rfl, hB2⟩
      clear hp hB2 hC2
      go_wp2_with fail
      go_ret
      exact post
    · have hfb : S.freeB a = false := by unfold PS.freeB PS.use useD; rw [if_pos ⟨a0, a1⟩]; exact decide_eq_false c
      have hfs : S.free a = S := by unfold PS.free; rw [hfb, if_neg (by decide)]
      have HF := Lib.hid (And.intro hfb hfs)
      clear hfb hfs
      have cc : decide (2 ≤ S.U a.toNat) = false ∨ (decide (2 ≤ S.U a.toNat) = true ∧ decide (S.U a.toNat ≤ 5) = false) := by
        by_cases d : 2 ≤ S.U a.toNat
        · exact .inr ⟨decide_eq_true d, decide_eq_false (fun x => c ⟨d, x⟩)⟩
        · exact .inl (decide_eq_false d)
      clear c
      rcases cc with du1 | ⟨du1, du2⟩
      all_goals
        go_enter Try.func34, Try.ntmps34
        go_wp2_with fail
        generalize w.alloc (.cells #[.int .i64 3, .int .i64 a, .int .i64 z, .bool on, .slice A bad.length c] 61) = W at *
        generalize w.heap.size = g at *
        obtain ⟨hB, hbx, ⟨g1, g2, g3⟩, hF, ho⟩ := H.out
        obtain ⟨k0, k1, k2, k3, k4⟩ := box5 hbx
        have hcu := hB.rr.use a.toNat (by omega)
        have HB := Lib.hid hB
        clear H hB hbx hF ho
        generalize S.U a.toNat = u at *
        go_quiet ((go_at_call 53; exact Calls.quiet_of_same (used_any _ _)))
        go_wp2_with fail
        have hp := bp_free a (HB.out.keep ((Chg.refl NoB W).drewN nq))
        rw [HF.out.1] at hp
        clear HB
        refine hp.mono ?_
        rintro e w2 ⟨rfl, hB2, hC2⟩
        have post : DoPost w0 p b bi v (S.free a) (.returned (.bool true)) w2 := ⟨rfl, by rw [HF.out.2] at hB2 ⊢; exact hB2⟩
        clear hp hB2 hC2 HF
        go_wp2_with fail
        go_ret
        exact post
  · have hfb : S.freeB a = false := by unfold PS.freeB PS.use useD; rw [if_neg fr]; decide
    have hfs : S.free a = S := by unfold PS.free; rw [hfb, if_neg (by decide)]
    have HF := Lib.hid (And.intro hfb hfs)
    clear hfb hfs
    have hcc : decide (0 ≤ a) = false ∨ (decide (0 ≤ a) = true ∧ decide (a < 1024) = false) := by
      by_cases d : 0 ≤ a
      · exact .inr ⟨decide_eq_true d, decide_eq_false (fun x => fr ⟨d, x⟩)⟩
      · exact .inl (decide_eq_false d)
    clear fr
    rcases hcc with a0 | ⟨a0, a1⟩
    all_goals
      go_enter Try.func34, Try.ntmps34
      go_wp2_with fail
      generalize w.alloc (.cells #[.int .i64 3, .int .i64 a, .int .i64 z, .bool on, .slice A bad.length c] 61) = W at *
      generalize w.heap.size = g at *
      obtain ⟨hB, hbx, ⟨g1, g2, g3⟩, hF, ho⟩ := H.out
      obtain ⟨k0, k1, k2, k3, k4⟩ := box5 hbx
      have HB := Lib.hid hB
      clear H hB hbx hF ho
      go_quiet (fail)
      go_wp2_with fail
      have hp := bp_free a (HB.out.keep ((Chg.refl NoB W).drewN nq))
      rw [HF.out.1] at hp
      clear HB
      refine hp.mono ?_
      rintro e w2 ⟨rfl, hB2, hC2⟩
      have post : DoPost w0 p b bi v (S.free a) (.returned (.bool true)) w2 := ⟨rfl, by rw [HF.out.2] at hB2 ⊢; exact hB2⟩
      clear hp hB2 hC2 HF
      go_wp2_with fail
      go_ret
      exact post
set_option maxRecDepth 100000 in
set_option maxHeartbeats 4000000 in
theorem do_spoil (w0 w : World) (p b bi v : Nat) (S : PS) (a z : Int) (on : Bool) (A : Option Addr) (c : Nat) (bad : List Int) (h : Both w0 w p b bi v S S) (hF : Rd w .i64 A bad) (ho : 0 < bad.length → Off A (fun i => w0.heap.size ≤ i)) :
    Calls Try.prog 34 #[.pointer (some ⟨p, 0, none⟩), .pointer (some ⟨v, 0, none⟩), .agg #[.int .i64 4, .int .i64 a, .int .i64 z, .bool on, .slice A bad.length c]] w (DoPost w0 p b bi v (S.spoil a)) := by
  have C1 := (Chg.refl NoB w).alloc (.cells #[.int .i64 4, .int .i64 a, .int .i64 z, .bool on, .slice A bad.length c] 61)
  have hB := h.keep C1
  have hbx : Blk (w.alloc (.cells #[.int .i64 4, .int .i64 a, .int .i64 z, .bool on, .slice A bad.length c] 61)) w.heap.size _ _ := bnew w _
  have g1 : w.heap.size ≠ p ∧ w.heap.size ≠ bi ∧ w.heap.size ≠ v := by
    obtain ⟨C, h3, _⟩ := h.pl.at_.st
    have := blt h3
    have := blt h.pl.at_.fr.xs
    have := h.rr.lt
    omega
  have hF1 := hF.chg C1 (fun _ ad _ x => x)
  have H := Lib.hid (And.intro hB (And.intro hbx (And.intro g1 (And.intro hF1 ho))))
  clear h hF ho C1 hB hbx g1 hF1
  by_cases fr : 0 ≤ a ∧ a < 1024
  · obtain ⟨a0, a1⟩ := fr
    have da0 : decide (0 ≤ a) = true := decide_eq_true a0
    have da1 : decide (a < 1024) = true := decide_eq_true a1
    by_cases c : S.U a.toNat ≠ 6
    · have hfb : S.spoilB a = true := by unfold PS.spoilB; exact decide_eq_true ⟨⟨a0, a1⟩, c⟩
      have hfs : S.spoil a = { S with U := upd S.U a.toNat 6 } := by unfold PS.spoil; rw [if_pos hfb]
      have HF := Lib.hid (And.intro hfb hfs)
      have du1 : (S.U a.toNat != 6) = true := by rw [bne_iff_ne]; exact c
      clear c hfb hfs
      go_enter Try.func34, Try.ntmps34
      go_wp2_with fail
      generalize w.alloc (.cells #[.int .i64 4, .int .i64 a, .int .i64 z, .bool on, .slice A bad.length c] 61) = W at *
      generalize w.heap.size = g at *
      obtain ⟨hB, hbx, ⟨g1, g2, g3⟩, hF, ho⟩ := H.out
      obtain ⟨k0, k1, k2, k3, k4⟩ := box5 hbx
      have hcu := hB.rr.use a.toNat (by omega)
      have hfz := hB.rr.frz a.toNat
      have HB := Lib.hid hB
      clear H hB hbx hF ho
      generalize S.U a.toNat = u at *
      go_quiet (fail)
      go_wp2_with fail
      have hQ := HB.out.goR (((HB.out.rr.chg ((Chg.refl NoB W).drewN nq) (fun x => x)).setUse a.toNat (by omega) 6).chg ((Chg.refl NoB _).drew) (fun x => x)) ((Chg.set (S := (· = v)) ((Chg.refl (· = v) W).drewN nq) (p := ⟨v, a.toNat, none⟩) (.inl rfl) (.int .i64 6)).drew)
      have HQ := Lib.hid hQ
      clear hQ HB
      go_region
      go_wp2_with fail
      rw [← HF.out.2] at HQ
      have hp := bp_spoil a HQ.out
      rw [HF.out.1] at hp
      clear HQ HF
      refine hp.mono ?_
      rintro e w2 ⟨rfl, hB2, hC2⟩
      have post : DoPost w0 p b bi v (S.spoil a) (.returned (.bool true)) w2 := ⟨rfl, hB2⟩
      clear hp hB2 hC2
      go_wp2_with fail
      go_ret
      exact post
    · have hfb : S.spoilB a = false := by unfold PS.spoilB; exact decide_eq_false (fun x => c x.2)
      have hfs : S.spoil a = S := by unfold PS.spoil; rw [hfb, if_neg (by decide)]
      have HF := Lib.hid (And.intro hfb hfs)
      have du1 : (S.U a.toNat != 6) = false := by simpa using c
      clear hfb hfs c
      all_goals
        go_enter Try.func34, Try.ntmps34
        go_wp2_with fail
        generalize w.alloc (.cells #[.int .i64 4, .int .i64 a, .int .i64 z, .bool on, .slice A bad.length c] 61) = W at *
        generalize w.heap.size = g at *
        obtain ⟨hB, hbx, ⟨g1, g2, g3⟩, hF, ho⟩ := H.out
        obtain ⟨k0, k1, k2, k3, k4⟩ := box5 hbx
        have hcu := hB.rr.use a.toNat (by omega)
        have HB := Lib.hid hB
        clear H hB hbx hF ho
        generalize S.U a.toNat = u at *
        go_quiet (fail)
        go_wp2_with fail
        have hp := bp_spoil a (HB.out.keep ((Chg.refl NoB W).drewN nq))
        rw [HF.out.1] at hp
        clear HB
        refine hp.mono ?_
        rintro e w2 ⟨rfl, hB2, hC2⟩
        have post : DoPost w0 p b bi v (S.spoil a) (.returned (.bool true)) w2 := ⟨rfl, by rw [HF.out.2] at hB2 ⊢; exact hB2⟩
        clear hp hB2 hC2 HF
        go_wp2_with fail
        go_ret
        exact post
  · have hfb : S.spoilB a = false := by unfold PS.spoilB; exact decide_eq_false (fun x => fr x.1)
    have hfs : S.spoil a = S := by unfold PS.spoil; rw [hfb, if_neg (by decide)]
    have HF := Lib.hid (And.intro hfb hfs)
    clear hfb hfs
    have hcc : decide (0 ≤ a) = false ∨ (decide (0 ≤ a) = true ∧ decide (a < 1024) = false) := by
      by_cases d : 0 ≤ a
      · exact .inr ⟨decide_eq_true d, decide_eq_false (fun x => fr ⟨d, x⟩)⟩
      · exact .inl (decide_eq_false d)
    clear fr
    rcases hcc with a0 | ⟨a0, a1⟩
    all_goals
      go_enter Try.func34, Try.ntmps34
      go_wp2_with fail
      generalize w.alloc (.cells #[.int .i64 4, .int .i64 a, .int .i64 z, .bool on, .slice A bad.length c] 61) = W at *
      generalize w.heap.size = g at *
      obtain ⟨hB, hbx, ⟨g1, g2, g3⟩, hF, ho⟩ := H.out
      obtain ⟨k0, k1, k2, k3, k4⟩ := box5 hbx
      have HB := Lib.hid hB
      clear H hB hbx hF ho
      go_quiet (fail)
      go_wp2_with fail
      have hp := bp_spoil a (HB.out.keep ((Chg.refl NoB W).drewN nq))
      rw [HF.out.1] at hp
      clear HB
      refine hp.mono ?_
      rintro e w2 ⟨rfl, hB2, hC2⟩
      have post : DoPost w0 p b bi v (S.spoil a) (.returned (.bool true)) w2 := ⟨rfl, by rw [HF.out.2] at hB2 ⊢; exact hB2⟩
      clear hp hB2 hC2 HF
      go_wp2_with fail
      go_ret
      exact post
set_option maxRecDepth 100000 in
set_option maxHeartbeats 4000000 in
theorem do_iso (w0 w : World) (p b bi v : Nat) (S : PS) (a z : Int) (on : Bool) (A : Option Addr) (c : Nat) (bad : List Int) (h : Both w0 w p b bi v S S) (hF : Rd w .i64 A bad) (ho : 0 < bad.length → Off A (fun i => w0.heap.size ≤ i)) :
    Calls Try.prog 34 #[.pointer (some ⟨p, 0, none⟩), .pointer (some ⟨v, 0, none⟩), .agg #[.int .i64 5, .int .i64 a, .int .i64 z, .bool on, .slice A bad.length c]] w (DoPost w0 p b bi v (S.iso a on)) := by
  have C1 := (Chg.refl NoB w).alloc (.cells #[.int .i64 5, .int .i64 a, .int .i64 z, .bool on, .slice A bad.length c] 61)
  have hB := h.keep C1
  have hbx : Blk (w.alloc (.cells #[.int .i64 5, .int .i64 a, .int .i64 z, .bool on, .slice A bad.length c] 61)) w.heap.size _ _ := bnew w _
  have g1 : w.heap.size ≠ p ∧ w.heap.size ≠ bi ∧ w.heap.size ≠ v := by
    obtain ⟨C, h3, _⟩ := h.pl.at_.st
    have := blt h3
    have := blt h.pl.at_.fr.xs
    have := h.rr.lt
    omega
  have hF1 := hF.chg C1 (fun _ ad _ x => x)
  have H := Lib.hid (And.intro hB (And.intro hbx (And.intro g1 (And.intro hF1 ho))))
  clear h hF ho C1 hB hbx g1 hF1
  by_cases fr : 0 ≤ a ∧ a < 32
  · obtain ⟨a0, a1⟩ := fr
    have da0 : decide (0 ≤ a) = true := decide_eq_true a0
    have da1 : decide (a < 32) = true := decide_eq_true a1
    by_cases c : S.Z a.toNat ≠ 0
    · have hfb : S.isoB a = true := by unfold PS.isoB PS.zone zoneD; rw [if_pos ⟨a0, a1⟩]; exact decide_eq_true c
      have hfs : S.iso a on = { S with I := updB S.I a.toNat on } := by unfold PS.iso; rw [if_pos hfb]
      have HF := Lib.hid (And.intro hfb hfs)
      have du1 : (S.Z a.toNat != 0) = true := by rw [bne_iff_ne]; exact c
      clear c hfb hfs
      go_enter Try.func34, Try.ntmps34
      go_wp2_with fail
      generalize w.alloc (.cells #[.int .i64 5, .int .i64 a, .int .i64 z, .bool on, .slice A bad.length c] 61) = W at *
      generalize w.heap.size = g at *
      obtain ⟨hB, hbx, ⟨g1, g2, g3⟩, hF, ho⟩ := H.out
      obtain ⟨k0, k1, k2, k3, k4⟩ := box5 hbx
      have hcu := hB.rr.zone a.toNat (by omega)
      have hfz := hB.rr.frz (1056 + a.toNat)
      have hci := hB.rr.iso a.toNat (by omega)
      have HB := Lib.hid hB
      clear H hB hbx hF ho
      generalize S.Z a.toNat = u at *
      go_quiet (fail)
      go_wp2_with fail
      have hQ := HB.out.goR (((HB.out.rr.chg ((Chg.refl NoB W).drewN nq) (fun x => x)).setIso a.toNat (by omega) on).chg ((Chg.refl NoB _).drew) (fun x => x)) ((Chg.set (S := (· = v)) ((Chg.refl (· = v) W).drewN nq) (p := ⟨v, 1056 + a.toNat, none⟩) (.inl rfl) (.bool on)).drew)
      have HQ := Lib.hid hQ
      clear hQ HB
      go_region
      go_wp2_with fail
      rw [← HF.out.2] at HQ
      have hp := bp_iso a on HQ.out
      rw [HF.out.1] at hp
      clear HQ HF
      refine hp.mono ?_
      rintro e w2 ⟨rfl, hB2, hC2⟩
      have post : DoPost w0 p b bi v (S.iso a on) (.returned (.bool true)) w2 := ⟨rfl, hB2⟩
      clear hp hB2 hC2
      go_wp2_with fail
      go_ret
      exact post
    · have hfb : S.isoB a = false := by unfold PS.isoB PS.zone zoneD; rw [if_pos ⟨a0, a1⟩]; exact decide_eq_false c
      have hfs : S.iso a on = S := by unfold PS.iso; rw [hfb, if_neg (by decide)]
      have HF := Lib.hid (And.intro hfb hfs)
      have du1 : (S.Z a.toNat != 0) = false := by simpa using c
      clear hfb hfs c
      all_goals
        go_enter Try.func34, Try.ntmps34
        go_wp2_with fail
        generalize w.alloc (.cells #[.int .i64 5, .int .i64 a, .int .i64 z, .bool on, .slice A bad.length c] 61) = W at *
        generalize w.heap.size = g at *
        obtain ⟨hB, hbx, ⟨g1, g2, g3⟩, hF, ho⟩ := H.out
        obtain ⟨k0, k1, k2, k3, k4⟩ := box5 hbx
        have hcu := hB.rr.zone a.toNat (by omega)
        have HB := Lib.hid hB
        clear H hB hbx hF ho
        generalize S.Z a.toNat = u at *
        go_quiet (fail)
        go_wp2_with fail
        have hp := bp_iso a on (HB.out.keep ((Chg.refl NoB W).drewN nq))
        rw [HF.out.1] at hp
        clear HB
        refine hp.mono ?_
        rintro e w2 ⟨rfl, hB2, hC2⟩
        have post : DoPost w0 p b bi v (S.iso a on) (.returned (.bool true)) w2 := ⟨rfl, by rw [HF.out.2] at hB2 ⊢; exact hB2⟩
        clear hp hB2 hC2 HF
        go_wp2_with fail
        go_ret
        exact post
  · have hfb : S.isoB a = false := by unfold PS.isoB PS.zone zoneD; rw [if_neg fr]; decide
    have hfs : S.iso a on = S := by unfold PS.iso; rw [hfb, if_neg (by decide)]
    have HF := Lib.hid (And.intro hfb hfs)
    clear hfb hfs
    have hcc : decide (0 ≤ a) = false ∨ (decide (0 ≤ a) = true ∧ decide (a < 32) = false) := by
      by_cases d : 0 ≤ a
      · exact .inr ⟨decide_eq_true d, decide_eq_false (fun x => fr ⟨d, x⟩)⟩
      · exact .inl (decide_eq_false d)
    clear fr
    rcases hcc with a0 | ⟨a0, a1⟩
    all_goals
      go_enter Try.func34, Try.ntmps34
      go_wp2_with fail
      generalize w.alloc (.cells #[.int .i64 5, .int .i64 a, .int .i64 z, .bool on, .slice A bad.length c] 61) = W at *
      generalize w.heap.size = g at *
      obtain ⟨hB, hbx, ⟨g1, g2, g3⟩, hF, ho⟩ := H.out
      obtain ⟨k0, k1, k2, k3, k4⟩ := box5 hbx
      have HB := Lib.hid hB
      clear H hB hbx hF ho
      go_quiet (fail)
      go_wp2_with fail
      have hp := bp_iso a on (HB.out.keep ((Chg.refl NoB W).drewN nq))
      rw [HF.out.1] at hp
      clear HB
      refine hp.mono ?_
      rintro e w2 ⟨rfl, hB2, hC2⟩
      have post : DoPost w0 p b bi v (S.iso a on) (.returned (.bool true)) w2 := ⟨rfl, by rw [HF.out.2] at hB2 ⊢; exact hB2⟩
      clear hp hB2 hC2 HF
      go_wp2_with fail
      go_ret
      exact post
def PS.act (S : PS) (what a z : Int) (on : Bool) (bad : List Int) : PS :=
  if what = 0 then S.online a z bad else if what = 1 then S.offline a else if what = 2 then S.alloc a z on else if what = 3 then S.free a else if what = 4 then S.spoil a else if what = 5 then S.iso a on else S
theorem do_any (w0 w : World) (p b bi v : Nat) (S : PS) (what a z : Int) (on : Bool) (A : Option Addr) (c : Nat) (bad : List Int) (h : Both w0 w p b bi v S S) (hF : Rd w .i64 A bad) (ho : 0 < bad.length → Off A (fun i => w0.heap.size ≤ i)) :
    Calls Try.prog 34 #[.pointer (some ⟨p, 0, none⟩), .pointer (some ⟨v, 0, none⟩), .agg #[.int .i64 what, .int .i64 a, .int .i64 z, .bool on, .slice A bad.length c]] w (DoPost w0 p b bi v (S.act what a z on bad)) := by
  unfold PS.act
  by_cases e0 : what = 0
  · subst e0; rw [if_pos rfl]; exact do_online w0 w p b bi v S a z on A c bad h hF ho
  rw [if_neg e0]
  by_cases e1 : what = 1
  · subst e1; rw [if_pos rfl]; exact do_offline w0 w p b bi v S a z on A c bad h hF ho
  rw [if_neg e1]
  by_cases e2 : what = 2
  · subst e2; rw [if_pos rfl]; exact do_alloc w0 w p b bi v S a z on A c bad h hF ho
  rw [if_neg e2]
  by_cases e3 : what = 3
  · subst e3; rw [if_pos rfl]; exact do_free w0 w p b bi v S a z on A c bad h hF ho
  rw [if_neg e3]
  by_cases e4 : what = 4
  · subst e4; rw [if_pos rfl]; exact do_spoil w0 w p b bi v S a z on A c bad h hF ho
  rw [if_neg e4]
  by_cases e5 : what = 5
  · subst e5; rw [if_pos rfl]; exact do_iso w0 w p b bi v S a z on A c bad h hF ho
  rw [if_neg e5]
  exact do_other w0 w p b bi v S what (beq_eq_false_iff_ne.mpr e0) (beq_eq_false_iff_ne.mpr e1) (beq_eq_false_iff_ne.mpr e2) (beq_eq_false_iff_ne.mpr e3) (beq_eq_false_iff_ne.mpr e4) (beq_eq_false_iff_ne.mpr e5) a z on A c bad h hF ho
end Go.Proofs.Ytlhlnkfmmklkbaa.Pool
