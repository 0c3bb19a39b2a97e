/- Frames and what they are used for: Alloc. -/
import Derived.Test.YtimdojkhdneecaaPoolM
namespace Go.Proofs.Ytimdojkhdneecaa.Pool
open Go.RowKit Go.Proofs.Ytimdojkhdneecaa.Hp Go.Proofs.Ytimdojkhdneecaa.Runs
set_option linter.unusedVariables false
set_option linter.unusedSimpArgs false
/-- frames from f on may be given -/
def Good (U Z : Nat → Int) (I : Nat → Bool) (z : Int) (s f : Nat) : Prop := f % s = 0 ∧ f + s ≤ 1024 ∧ Z (f / 32) = z ∧ I (f / 32) = false ∧ ∀ k, k < s → U (f + k) = 1
def FirstG (U Z : Nat → Int) (I : Nat → Bool) (z : Int) (s f : Nat) : Prop := Good U Z I z s f ∧ ∀ g, g < f → ¬ Good U Z I z s g
def NoneG (U Z : Nat → Int) (I : Nat → Bool) (z : Int) (s : Nat) : Prop := ∀ g, ¬ Good U Z I z s g
theorem div_sect (s : Nat) (hs : s ∣ 32) (g k : Nat) (h0 : g % s = 0) : (k * 32 ≤ g ∧ g + s ≤ (k + 1) * 32) ↔ (g / 32 = k ∧ 0 < s) := by
  obtain ⟨c, hc⟩ := hs
  obtain ⟨d, rfl⟩ : ∃ d, g = s * d := ⟨g / s, by have := Nat.div_add_mod g s; omega⟩
  have sp : 0 < s := by rcases Nat.eq_zero_or_pos s with rfl | h; · omega
                        · exact h
  constructor
  · rintro ⟨h1, h2⟩
    refine ⟨?_, sp⟩
    omega
  · rintro ⟨h1, _⟩
    have h3 : s * d < (k + 1) * 32 := by omega
    have h4 : k * 32 ≤ s * d := by omega
    refine ⟨h4, ?_⟩
    have h5 : s * d < s * (c * (k + 1)) := by rw [← Nat.mul_assoc, ← hc]; omega
    have h6 : d < c * (k + 1) := Nat.lt_of_mul_lt_mul_left h5
    have h7 : s * (d + 1) ≤ s * (c * (k + 1)) := Nat.mul_le_mul_left s h6
    rw [← Nat.mul_assoc, ← hc, Nat.mul_add] at h7
    omega
theorem isRun_free (U : Nat → Int) (s : Nat) (hs : s ∣ 32) (k : Nat) (hk : k < 32) (g : Nat) : IsRun (freeL U) s ((k : Int) * 32) (((k : Int) + 1) * 32) g ↔ (g % s = 0 ∧ g / 32 = k ∧ g + s ≤ 1024 ∧ ∀ j, j < s → U (g + j) = 1) := by
  have sp : 0 < s := by rcases Nat.eq_zero_or_pos s with rfl | h
                        · obtain ⟨c, hc⟩ := hs; omega
                        · exact h
  unfold IsRun
  rw [freeL_length]
  constructor
  · rintro ⟨h1, h2, h3, h4, h5⟩
    have hd := (div_sect s hs g k h1).mp ⟨by omega, by omega⟩
    refine ⟨h1, hd.1, h4, fun j hj => ?_⟩
    have := h5 j hj
    rw [freeL_get U (g + j) (by omega)] at this
    by_cases c : U (g + j) = 1
    · exact c
    · rw [if_neg c] at this; omega
  · rintro ⟨h1, h2, h3, h4⟩
    have hd := (div_sect s hs g k h1).mpr ⟨h2, sp⟩
    refine ⟨h1, by omega, by omega, h3, fun j hj => ?_⟩
    rw [freeL_get U (g + j) (by omega), if_pos (h4 j hj)]
theorem good_at (U Z : Nat → Int) (I : Nat → Bool) (z : Int) (s : Nat) (hs : s ∣ 32) (g : Nat) (h : Good U Z I z s g) (k : Nat) (hk : k < 32) (e : g / 32 = k) : Z k = z ∧ I k = false ∧ IsRun (freeL U) s ((k : Int) * 32) (((k : Int) + 1) * 32) g := by
  obtain ⟨h1, h2, h3, h4, h5⟩ := h
  rw [e] at h3 h4
  exact ⟨h3, h4, (isRun_free U s hs k hk g).mpr ⟨h1, e, h2, h5⟩⟩
theorem pow_dvd (o : Nat) (ho : o ≤ 5) : 2 ^ o ∣ 32 := Nat.pow_dvd_pow 2 ho
theorem prun_spec (U Z : Nat → Int) (I : Nat → Bool) (z : Int) (s : Nat) (hs : s ∣ 32) (w : World) (e : Ending) (w' : World) (h : PRunPost U Z I z s w e w') :
    Chg NoB w w' ∧ ((∃ f : Nat, e = .returned (.tuple #[.int .i64 f, .bool true]) ∧ FirstG U Z I z s f) ∨ (e = .returned (.tuple #[.int .i64 0, .bool false]) ∧ NoneG U Z I z s)) := by
  have sp : 0 < s := by rcases Nat.eq_zero_or_pos s with rfl | h
                        · obtain ⟨c, hc⟩ := hs; omega
                        · exact h
  obtain ⟨f, ok, he, hc, h | h⟩ := h
  · obtain ⟨rfl, k, hk, hz, hi, hr, hno⟩ := h
    refine ⟨hc, .inl ⟨f, he, ?_⟩⟩
    rcases hr with ⟨_, h1, h2⟩ | ⟨h1, _⟩
    · have hf := (isRun_free U s hs k hk f).mp h1
      refine ⟨⟨hf.1, hf.2.2.1, by rw [hf.2.1]; exact hz, by rw [hf.2.1]; exact hi, hf.2.2.2⟩, fun g hg hG => ?_⟩
      have hgk : g / 32 ≤ k := by have := hf.2.1; omega
      obtain ⟨a1, a2, a3⟩ := good_at U Z I z s hs g hG (g / 32) (by omega) rfl
      by_cases c : g / 32 = k
      · rw [c] at a3; exact h2 g hg a3
      · exact hno (g / 32) (by omega) a1 a2 g a3
    · cases h1
  · obtain ⟨rfl, rfl, hno⟩ := h
    refine ⟨hc, .inr ⟨he, fun g hG => ?_⟩⟩
    have : g / 32 < 32 := by have := hG.2.1; omega
    obtain ⟨a1, a2, a3⟩ := good_at U Z I z s hs g hG (g / 32) this rfl
    exact hno (g / 32) this a1 a2 g a3
/-- what Alloc may answer: a first frame, or none -/
def AllocSpec (U Z : Nat → Int) (I : Nat → Bool) (s : Nat) (mov : Bool) (f : Nat) (ok : Bool) : Prop :=
  (ok = true ∧ ((mov = true ∧ FirstG U Z I 3 s f) ∨ ((mov = true → NoneG U Z I 3 s) ∧ FirstG U Z I 2 s f))) ∨ (ok = false ∧ f = 0 ∧ (mov = true → NoneG U Z I 3 s) ∧ NoneG U Z I 2 s)
def allocU (U : Nat → Int) (f k : Nat) (u : Int) : Nat → Int := fun g => if f ≤ g ∧ g < f + k then u else U g
theorem allocU_zero (U : Nat → Int) (f : Nat) (u : Int) : allocU U f 0 u = U := by
  funext g; unfold allocU; rw [if_neg (by omega)]
theorem allocU_succ (U : Nat → Int) (f k : Nat) (u : Int) : upd (allocU U f k u) (f + k) u = allocU U f (k + 1) u := by
  funext g
  unfold upd allocU
  by_cases e : g = f + k
  · subst e; rw [if_pos rfl, if_pos ⟨by omega, by omega⟩]
  · rw [if_neg e]
    by_cases c : f ≤ g ∧ g < f + k
    · have c' : f ≤ g ∧ g < f + (k + 1) := ⟨c.1, by omega⟩
      rw [if_pos c, if_pos c']
    · have c' : ¬ (f ≤ g ∧ g < f + (k + 1)) := by omega
      rw [if_neg c, if_neg c']
def AllocPost (w : World) (p b bi : Nat) (U Z : Nat → Int) (I : Nat → Bool) (s : Nat) (use : Int) (mov : Bool) (e : Ending) (w' : World) : Prop :=
  ∃ f ok, AllocSpec U Z I s mov f ok ∧ e = .returned (.tuple #[.int .i64 f, .int .i64 (if ok then 0 else 4)]) ∧ PoolAt w' p b bi (allocU U f (if ok then s else 0) use) Z I ∧ Chg (fun i => i = p ∨ i = bi) w w'
theorem alloc_bad (p : Nat) (use o : Int) (mov : Bool) (w : World) (h : ¬ (2 ≤ use ∧ use ≤ 5 ∧ 0 ≤ o ∧ o ≤ 5)) :
    Calls Try.prog 47 #[.pointer (some ⟨p, 0, none⟩), .int .i64 use, .int .i64 o, .bool mov] w fun e w' => e = .returned (.tuple #[.int .i64 0, .int .i64 1]) ∧ w = w' := by
  have hc : use < 2 ∨ (2 ≤ use ∧ 5 < use) ∨ (2 ≤ use ∧ use ≤ 5 ∧ o < 0) ∨ (2 ≤ use ∧ use ≤ 5 ∧ 0 ≤ o ∧ 5 < o) := by omega
  clear h
  rcases hc with h1 | ⟨h1, h2⟩ | ⟨h1, h2, h3⟩ | ⟨h1, h2, h3, h4⟩
  all_goals
    go_enter Try.func47, Try.ntmps47
    go_wp2_with fail
    go_ret2
    exact ⟨rfl, rfl⟩
def zAt (off j : Nat) : Int := if off + j = 0 then 3 else 2
def ARel (U Z : Nat → Int) (I : Nat → Bool) (s off : Nat) (w : World) (i : Value) (wr : World) : Prop :=
  ∃ k : Nat, k ≤ 2 - off ∧ i = .int .i64 k ∧ Chg NoB w wr ∧ ∀ j, j < k → NoneG U Z I (zAt off j) s
def BRel (p b bi : Nat) (U Z : Nat → Int) (I : Nat → Bool) (f s : Nat) (use : Int) (w : World) (i : Value) (wr : World) : Prop :=
  ∃ k : Nat, k ≤ s ∧ i = .int .i64 k ∧ PoolAt wr p b bi (allocU U f k use) Z I ∧ Chg (fun i => i = p ∨ i = bi) w wr
theorem spec_found (U Z : Nat → Int) (I : Nat → Bool) (s off k f : Nat) (ho : off ≤ 1) (hk : k < 2 - off) (hf : FirstG U Z I (zAt off k) s f) (hno : ∀ j, j < k → NoneG U Z I (zAt off j) s) : AllocSpec U Z I s (off == 0) f true := by
  refine .inl ⟨rfl, ?_⟩
  have : (off = 0 ∧ k = 0) ∨ (off = 0 ∧ k = 1) ∨ (off = 1 ∧ k = 0) := by omega
  rcases this with ⟨rfl, rfl⟩ | ⟨rfl, rfl⟩ | ⟨rfl, rfl⟩
  · exact .inl ⟨rfl, hf⟩
  · exact .inr ⟨fun _ => hno 0 (by omega), hf⟩
  · exact .inr ⟨fun h => absurd h (by decide), hf⟩
theorem spec_not (U Z : Nat → Int) (I : Nat → Bool) (s off : Nat) (ho : off ≤ 1) (hno : ∀ j, j < 2 - off → NoneG U Z I (zAt off j) s) : AllocSpec U Z I s (off == 0) 0 false := by
  refine .inr ⟨rfl, rfl, ?_⟩
  have : off = 0 ∨ off = 1 := by omega
  rcases this with rfl | rfl
  · exact ⟨fun _ => hno 0 (by omega), hno 1 (by omega)⟩
  · exact ⟨fun h => absurd h (by decide), hno 0 (by omega)⟩
theorem zones_blk (w : World) (t : TypeId) (off k : Nat) (hk : off + k < 2) : (w.alloc (.cells #[.int .i64 3, .int .i64 2] t)).cell? ⟨w.heap.size, off + k, none⟩ = some (.int .i64 (zAt off k)) := by
  have hb : Blk (w.alloc (.cells #[.int .i64 3, .int .i64 2] t)) w.heap.size #[.int .i64 3, .int .i64 2] t := bnew w _
  rw [bcell hb]
  unfold zAt
  have : off + k = 0 ∨ off + k = 1 := by omega
  rcases this with e | e <;> rw [e] <;> rfl
theorem wrap_pow (o : Nat) (ho : o ≤ 5) : wrap64 (2 ^ o) = ((2 ^ o : Nat) : Int) := by
  have ho' : o = 0 ∨ o = 1 ∨ o = 2 ∨ o = 3 ∨ o = 4 ∨ o = 5 := by omega
  rcases ho' with rfl | rfl | rfl | rfl | rfl | rfl <;> simp [wrap64]
set_option maxHeartbeats 4000000 in
theorem alloc_no (p b bi : Nat) (U Z : Nat → Int) (I : Nat → Bool) (use : Int) (hu : 2 ≤ use) (hu2 : use ≤ 5) (o : Nat) (ho : o ≤ 5) (w : World) (h : PoolAt w p b bi U Z I) :
    Calls Try.prog 47 #[.pointer (some ⟨p, 0, none⟩), .int .i64 use, .int .i64 o, .bool false] w (AllocPost w p b bi U Z I (2 ^ o) use false) := by
  have d1 : decide (use < 2) = false := decide_eq_false (by omega)
  have d2 : decide (5 < use) = false := decide_eq_false (by omega)
  have d3 : decide ((o : Int) < 0) = false := decide_eq_false (by omega)
  have d4 : decide ((5 : Int) < o) = false := decide_eq_false (by omega)
  have hwp := wrap_pow o ho
  have hdv := pow_dvd o ho
  have hs1 : 1 ≤ 2 ^ o := Nat.two_pow_pos o
  have hs2 : 2 ^ o ≤ 32 := Nat.le_of_dvd (by omega) hdv
  have CW : Chg NoB w (w.alloc (.cells #[.int .i64 3, .int .i64 2] 3)) := (Chg.refl NoB w).alloc _
  have hPW := h.chg CW (fun x => x) (fun x => x) (fun x => x)
  have hru := fun w' z hP => prun_any p b bi U Z I o ho z w' hP
  have hce := zones_blk w 3 1
  have fin : ∀ f ok w', AllocSpec U Z I (2 ^ o) (1 == 0) f ok → PoolAt w' p b bi (allocU U f (if ok then 2 ^ o else 0) use) Z I → Chg (fun i => i = p ∨ i = bi) (w.alloc (.cells #[.int .i64 3, .int .i64 2] 3)) w' → AllocPost w p b bi U Z I (2 ^ o) use false (.returned (.tuple #[.int .i64 f, .int .i64 (if ok then 0 else 4)])) w' :=
    fun f ok w' h1 h2 h3 => ⟨f, ok, h1, rfl, h2, (CW.mono (S' := fun i => i = p ∨ i = bi) (fun i _ hh => hh.elim)).trans h3 (fun i _ hh => hh)⟩
  have FIN := Lib.hid fin
  have HWP := Lib.hid hwp
  clear fin h hwp
  go_enter Try.func47, Try.ntmps47
  go_wp2_with fail
  generalize hs : 2 ^ o = s at *
  generalize w.heap.size = G at *
  generalize w.alloc (.cells #[.int .i64 3, .int .i64 2] 3) = W at *
  have HS := Lib.hid hs
  clear hs CW
  go_loopw [41] (fun i wr => ARel U Z I s 1 W i wr) (fun i wr => (1 - intOf i).toNat)
  case atStart => exact ⟨0, by omega, rfl, Chg.refl _ _, fun j hj => by omega⟩
  case round =>
    obtain ⟨k, hk, rfl, hC, hno⟩ := hrel
    by_cases hlt : k < 1
    · have hcell := hC.cell (hce k (by omega)) (fun x => x)
      skip
      have hP1 := hPW.chg hC (fun x => x) (fun x => x) (fun x => x)
      have hru1 := hru wr (zAt 1 k) hP1
      have nx : ∀ w', Chg NoB W w' → NoneG U Z I (zAt 1 k) s → ARel U Z I s 1 W (.int .i64 ((k : Int) + 1)) w' := by
        intro w' hc hn
        refine ⟨k + 1, by omega, rfl, hc, fun j hj => ?_⟩
        by_cases e : j = k
        · subst e; exact hn
        · exact hno j (by omega)
      have fo : ∀ f, FirstG U Z I (zAt 1 k) s f → AllocSpec U Z I s (1 == 0) f true := fun f hf => spec_found U Z I s 1 k f (by omega) (by omega) hf hno
      have sp := fun e w' => prun_spec U Z I (zAt 1 k) s hdv wr e w'
      have NX := Lib.hid (And.intro nx (And.intro fo (And.intro sp (And.intro hC hP1))))
      clear nx fo hno hce hru hC hP1 sp
      generalize zAt 1 k = z at *
      go_wp2_with fail
      refine hru1.mono ?_
      rintro e w2 hp
      obtain ⟨hc2, hp2⟩ := NX.out.2.2.1 e w2 hp
      clear hp hru1 hcell
      have C2 := NX.out.2.2.2.1.trans hc2 (fun i _ hh => hh)
      have P2 := NX.out.2.2.2.2.chg hc2 (fun x => x) (fun x => x) (fun x => x)
      rcases hp2 with ⟨f, rfl, hf⟩ | ⟨rfl, hn⟩
      · have S := NX.out.2.1 f hf
        have hfs : f + s ≤ 1024 := hf.1.2.1
        clear NX hf
        have F := fun w' h2 h3 => FIN.out f true w' S h2 h3
        have F1 := Lib.hid (And.intro F (And.intro C2 P2))
        clear F S C2 P2 hPW
        go_wp2_with fail
        have E1 := HWP.out
        rw [← HS.out] at E1
        rw [HS.out] at E1
        rw [E1]
        clear E1
        go_loopw [55] (fun i wr => BRel p b bi U Z I f s use W i wr) (fun i wr => ((s : Int) - intOf i).toNat)
        case atStart => exact ⟨0, by omega, rfl, by rw [allocU_zero]; exact F1.out.2.2, (F1.out.2.1).mono (fun i _ hh => hh.elim)⟩
        case round =>
          obtain ⟨j, hj, rfl, hP, hC⟩ := hrel
          by_cases hjl : j < s
          · have st := set_any p b bi _ Z I _ (f + j) use _ (by omega) hP
            have nx : ∀ w0 w', Chg (fun i => i = p ∨ i = bi) W w0 → SetPost w0 p b bi (allocU U f j use) Z I (freeL (allocU U f j use)) (f + j) use (.returned (.tuple #[])) w' → BRel p b bi U Z I f s use W (.int .i64 ((j : Int) + 1)) w' := by
              intro w0 w' hc hp
              refine ⟨j + 1, by omega, rfl, ?_, hc.trans hp.2.2 (fun i _ hh => hh)⟩
              have h3 := hp.2.1
              rw [freeL_set _ _ _ (by omega), allocU_succ U f j use] at h3
              exact h3
            have NY := Lib.hid (nx _ · hC)
            clear nx hP hC
            go_wp2_with fail
            refine st.mono ?_
            rintro e w2 hp
            obtain rfl := hp.1
            have F := NY.out _ hp
            clear hp st NY
            go_wp2_with fail
            exact ⟨F, by simp [intOf]; omega⟩
          · obtain rfl : j = s := by omega
            have post := F1.out.1 _ hP hC
            clear hP hC F1
            go_wp2_with fail
            go_ret2
            exact post
      · have N := NX.out.1 w2 C2 hn
        clear NX hn C2 P2
        go_wp2_with fail
        go_roundw
        case rel => exact N
        case measure => simp [intOf]; omega
    · obtain rfl : k = 1 := by omega
      have post := FIN.out 0 false wr (spec_not U Z I s 1 (by omega) hno) (by rw [if_neg (by decide), allocU_zero]; exact hPW.chg hC (fun x => x) (fun x => x) (fun x => x)) (hC.mono (fun i _ hh => hh.elim))
      clear hno hC hPW hce
      go_wp2_with fail
      go_ret2
      exact post
set_option maxHeartbeats 4000000 in
theorem alloc_yes (p b bi : Nat) (U Z : Nat → Int) (I : Nat → Bool) (use : Int) (hu : 2 ≤ use) (hu2 : use ≤ 5) (o : Nat) (ho : o ≤ 5) (w : World) (h : PoolAt w p b bi U Z I) :
    Calls Try.prog 47 #[.pointer (some ⟨p, 0, none⟩), .int .i64 use, .int .i64 o, .bool true] w (AllocPost w p b bi U Z I (2 ^ o) use true) := by
  have d1 : decide (use < 2) = false := decide_eq_false (by omega)
  have d2 : decide (5 < use) = false := decide_eq_false (by omega)
  have d3 : decide ((o : Int) < 0) = false := decide_eq_false (by omega)
  have d4 : decide ((5 : Int) < o) = false := decide_eq_false (by omega)
  have hwp := wrap_pow o ho
  have hdv := pow_dvd o ho
  have hs1 : 1 ≤ 2 ^ o := Nat.two_pow_pos o
  have hs2 : 2 ^ o ≤ 32 := Nat.le_of_dvd (by omega) hdv
  have CW : Chg NoB w (w.alloc (.cells #[.int .i64 3, .int .i64 2] 3)) := (Chg.refl NoB w).alloc _
  have hPW := h.chg CW (fun x => x) (fun x => x) (fun x => x)
  have hru := fun w' z hP => prun_any p b bi U Z I o ho z w' hP
  have hce := zones_blk w 3 0
  have fin : ∀ f ok w', AllocSpec U Z I (2 ^ o) (0 == 0) f ok → PoolAt w' p b bi (allocU U f (if ok then 2 ^ o else 0) use) Z I → Chg (fun i => i = p ∨ i = bi) (w.alloc (.cells #[.int .i64 3, .int .i64 2] 3)) w' → AllocPost w p b bi U Z I (2 ^ o) use true (.returned (.tuple #[.int .i64 f, .int .i64 (if ok then 0 else 4)])) w' :=
    fun f ok w' h1 h2 h3 => ⟨f, ok, h1, rfl, h2, (CW.mono (S' := fun i => i = p ∨ i = bi) (fun i _ hh => hh.elim)).trans h3 (fun i _ hh => hh)⟩
  have FIN := Lib.hid fin
  have HWP := Lib.hid hwp
  clear fin h hwp
  go_enter Try.func47, Try.ntmps47
  go_wp2_with fail
  generalize hs : 2 ^ o = s at *
  generalize w.heap.size = G at *
  generalize w.alloc (.cells #[.int .i64 3, .int .i64 2] 3) = W at *
  have HS := Lib.hid hs
  clear hs CW
  go_loopw [41] (fun i wr => ARel U Z I s 0 W i wr) (fun i wr => (2 - intOf i).toNat)
  case atStart => exact ⟨0, by omega, rfl, Chg.refl _ _, fun j hj => by omega⟩
  case round =>
    obtain ⟨k, hk, rfl, hC, hno⟩ := hrel
    by_cases hlt : k < 2
    · have hcell := hC.cell (hce k (by omega)) (fun x => x)
      rw [Nat.zero_add] at hcell
      have hP1 := hPW.chg hC (fun x => x) (fun x => x) (fun x => x)
      have hru1 := hru wr (zAt 0 k) hP1
      have nx : ∀ w', Chg NoB W w' → NoneG U Z I (zAt 0 k) s → ARel U Z I s 0 W (.int .i64 ((k : Int) + 1)) w' := by
        intro w' hc hn
        refine ⟨k + 1, by omega, rfl, hc, fun j hj => ?_⟩
        by_cases e : j = k
        · subst e; exact hn
        · exact hno j (by omega)
      have fo : ∀ f, FirstG U Z I (zAt 0 k) s f → AllocSpec U Z I s (0 == 0) f true := fun f hf => spec_found U Z I s 0 k f (by omega) (by omega) hf hno
      have sp := fun e w' => prun_spec U Z I (zAt 0 k) s hdv wr e w'
      have NX := Lib.hid (And.intro nx (And.intro fo (And.intro sp (And.intro hC hP1))))
      clear nx fo hno hce hru hC hP1 sp
      generalize zAt 0 k = z at *
      go_wp2_with fail
      refine hru1.mono ?_
      rintro e w2 hp
      obtain ⟨hc2, hp2⟩ := NX.out.2.2.1 e w2 hp
      clear hp hru1 hcell
      have C2 := NX.out.2.2.2.1.trans hc2 (fun i _ hh => hh)
      have P2 := NX.out.2.2.2.2.chg hc2 (fun x => x) (fun x => x) (fun x => x)
      rcases hp2 with ⟨f, rfl, hf⟩ | ⟨rfl, hn⟩
      · have S := NX.out.2.1 f hf
        have hfs : f + s ≤ 1024 := hf.1.2.1
        clear NX hf
        have F := fun w' h2 h3 => FIN.out f true w' S h2 h3
        have F1 := Lib.hid (And.intro F (And.intro C2 P2))
        clear F S C2 P2 hPW
        go_wp2_with fail
        have E1 := HWP.out
        rw [← HS.out] at E1
        rw [HS.out] at E1
        rw [E1]
        clear E1
        go_loopw [55] (fun i wr => BRel p b bi U Z I f s use W i wr) (fun i wr => ((s : Int) - intOf i).toNat)
        case atStart => exact ⟨0, by omega, rfl, by rw [allocU_zero]; exact F1.out.2.2, (F1.out.2.1).mono (fun i _ hh => hh.elim)⟩
        case round =>
          obtain ⟨j, hj, rfl, hP, hC⟩ := hrel
          by_cases hjl : j < s
          · have st := set_any p b bi _ Z I _ (f + j) use _ (by omega) hP
            have nx : ∀ w0 w', Chg (fun i => i = p ∨ i = bi) W w0 → SetPost w0 p b bi (allocU U f j use) Z I (freeL (allocU U f j use)) (f + j) use (.returned (.tuple #[])) w' → BRel p b bi U Z I f s use W (.int .i64 ((j : Int) + 1)) w' := by
              intro w0 w' hc hp
              refine ⟨j + 1, by omega, rfl, ?_, hc.trans hp.2.2 (fun i _ hh => hh)⟩
              have h3 := hp.2.1
              rw [freeL_set _ _ _ (by omega), allocU_succ U f j use] at h3
              exact h3
            have NY := Lib.hid (nx _ · hC)
            clear nx hP hC
            go_wp2_with fail
            refine st.mono ?_
            rintro e w2 hp
            obtain rfl := hp.1
            have F := NY.out _ hp
            clear hp st NY
            go_wp2_with fail
            exact ⟨F, by simp [intOf]; omega⟩
          · obtain rfl : j = s := by omega
            have post := F1.out.1 _ hP hC
            clear hP hC F1
            go_wp2_with fail
            go_ret2
            exact post
      · have N := NX.out.1 w2 C2 hn
        clear NX hn C2 P2
        go_wp2_with fail
        go_roundw
        case rel => exact N
        case measure => simp [intOf]; omega
    · obtain rfl : k = 2 := by omega
      have post := FIN.out 0 false wr (spec_not U Z I s 0 (by omega) hno) (by rw [if_neg (by decide), allocU_zero]; exact hPW.chg hC (fun x => x) (fun x => x) (fun x => x)) (hC.mono (fun i _ hh => hh.elim))
      clear hno hC hPW hce
      go_wp2_with fail
      go_ret2
      exact post
def ArgOk (use o : Int) : Prop := 2 ≤ use ∧ use ≤ 5 ∧ 0 ≤ o ∧ o ≤ 5
def AllocAny (w : World) (p b bi : Nat) (U Z : Nat → Int) (I : Nat → Bool) (use o : Int) (mov : Bool) (e : Ending) (w' : World) : Prop :=
  (¬ ArgOk use o ∧ e = .returned (.tuple #[.int .i64 0, .int .i64 1]) ∧ w = w') ∨ (ArgOk use o ∧ AllocPost w p b bi U Z I (2 ^ o.toNat) use mov e w')
theorem alloc_any (p b bi : Nat) (U Z : Nat → Int) (I : Nat → Bool) (use o : Int) (mov : Bool) (w : World) (h : PoolAt w p b bi U Z I) :
    Calls Try.prog 47 #[.pointer (some ⟨p, 0, none⟩), .int .i64 use, .int .i64 o, .bool mov] w (AllocAny w p b bi U Z I use o mov) := by
  by_cases g : ArgOk use o
  · obtain ⟨a, rfl⟩ := Int.eq_ofNat_of_zero_le g.2.2.1
    have ho : a ≤ 5 := by have := g.2.2.2; omega
    cases mov
    · exact (alloc_no p b bi U Z I use g.1 g.2.1 a ho w h).mono fun e w' hp => .inr ⟨g, hp⟩
    · exact (alloc_yes p b bi U Z I use g.1 g.2.1 a ho w h).mono fun e w' hp => .inr ⟨g, hp⟩
  · refine (alloc_bad p use o mov w g).mono ?_
    rintro e w' ⟨rfl, rfl⟩
    exact .inl ⟨g, rfl, rfl⟩
end Go.Proofs.Ytimdojkhdneecaa.Pool
