/- The document's pool: Alloc. -/
import Derived.Test.YtlhlnkfmmklkbaaPoolV
namespace Go.Proofs.Ytlhlnkfmmklkbaa.Pool
open Go.RowKit Go.Proofs.Ytlhlnkfmmklkbaa.Hp Go.Proofs.Ytlhlnkfmmklkbaa.Runs
set_option linter.unusedVariables false
set_option linter.unusedSimpArgs false
theorem ralloc_bad (v : Nat) (use o : Int) (mov : Bool) (w : World) (h : ¬ ArgOk use o) :
    Calls Try.prog 52 #[.pointer (some ⟨v, 0, none⟩), .int .i64 use, .int .i64 o, .bool mov] w fun e w' => e = .returned (.tuple #[.int .i64 0, .int .i64 1]) ∧ w = w' := by
  unfold ArgOk at h
  have hc : use < 2 ∨ (2 ≤ use ∧ 5 < use) ∨ (2 ≤ use ∧ use ≤ 5 ∧ o < 0) ∨ (2 ≤ use ∧ use ≤ 5 ∧ 0 ≤ o ∧ 5 < o) := by omega
  clear h
  rcases hc with h1 | ⟨h1, h2⟩ | ⟨h1, h2, h3⟩ | ⟨h1, h2, h3, h4⟩
  all_goals
    go_enter Try.func52, Try.ntmps52
    go_wp2_with fail
    go_ret2
    exact ⟨rfl, rfl⟩
/-- the zones that have been tried -/
def Tried (S : PS) (s : Nat) (mov : Bool) (z : Int) : Prop := (z < 3 → mov = true → NoneG S.U S.Z S.I 3 s) ∧ (z < 2 → NoneG S.U S.Z S.I 2 s)
def ZRel (S : PS) (s : Nat) (mov : Bool) (i : Value) : Prop := ∃ z : Int, 1 ≤ z ∧ z ≤ 3 ∧ i = .int .i64 z ∧ Tried S s mov z
def FRel (S : PS) (s : Nat) (z : Int) (i : Value) : Prop := ∃ f : Nat, f % s = 0 ∧ f ≤ 1024 ∧ i = .int .i64 f ∧ ∀ g, g < f → ¬ Good S.U S.Z S.I z s g
def allF (S : PS) (f k : Nat) : Bool := (List.range k).all (fun j => S.U (f + j) == 1)
theorem allF_succ (S : PS) (f k : Nat) : allF S f (k + 1) = (allF S f k && (S.U (f + k) == 1)) := by
  unfold allF; rw [List.range_succ, List.all_append]; simp
def KRel (S : PS) (s f : Nat) (b0 : Bool) (x i : Value) : Prop := ∃ k : Nat, k ≤ s ∧ i = .int .i64 ((f + k : Nat) : Int) ∧ x = .bool (b0 && allF S f k)
theorem good_b (S : PS) (z : Int) (s f : Nat) (h1 : f % s = 0) (h2 : f + s ≤ 1024) : ((((S.Z (f / 32) == z) && !S.I (f / 32))) && allF S f s) = true ↔ Good S.U S.Z S.I z s f := by
  rw [← goodB_iff]
  unfold goodB
  constructor
  · intro h
    rw [Bool.and_eq_true, Bool.and_eq_true] at h
    rw [Bool.and_eq_true]
    exact ⟨decide_eq_true ⟨h1, h2, by simpa using h.1.1, by simpa using h.1.2⟩, h.2⟩
  · intro h
    rw [Bool.and_eq_true] at h
    have h3 := of_decide_eq_true h.1
    rw [Bool.and_eq_true, Bool.and_eq_true]
    exact ⟨⟨by simp [h3.2.2.1], by simp [h3.2.2.2]⟩, h.2⟩
def WRel (w : World) (v : Nat) (S : PS) (f s : Nat) (use : Int) (i : Value) (wr : World) : Prop :=
  ∃ k : Nat, k ≤ s ∧ i = .int .i64 ((f + k : Nat) : Int) ∧ RR wr v { S with U := allocU S.U f k use } ∧ Chg (· = v) w wr
def RAllocPost (w : World) (v : Nat) (S : PS) (s : Nat) (use : Int) (mov : Bool) (e : Ending) (w' : World) : Prop :=
  ∃ f ok, AllocSpec S.U S.Z S.I s mov f ok ∧ e = .returned (.tuple #[.int .i64 f, .int .i64 (if ok then 0 else 4)]) ∧ RR w' v { S with U := allocU S.U f (if ok then s else 0) use } ∧ Chg (· = v) w w'
set_option maxRecDepth 100000 in
set_option maxHeartbeats 4000000 in
theorem ralloc_ok (v : Nat) (S : PS) (use : Int) (hu : 2 ≤ use) (hu2 : use ≤ 5) (o : Nat) (ho : o ≤ 5) (mov : Bool) (w : World) (h : RR w v S) :
    Calls Try.prog 52 #[.pointer (some ⟨v, 0, none⟩), .int .i64 use, .int .i64 o, .bool mov] w (RAllocPost w v S (2 ^ o) use mov) := by
  have d1 : decide (use < 2) = false := decide_eq_false (by omega)
  have d2 : decide (5 < use) = false := decide_eq_false (by omega)
  have d3 : decide ((o : Int) < 0) = false := decide_eq_false (by omega)
  have d4 : decide ((5 : Int) < o) = false := decide_eq_false (by omega)
  have hwp := wrap_pow o ho
  have hdv := pow_dvd o ho
  have hs1 : 1 ≤ 2 ^ o := Nat.two_pow_pos o
  have hs2 : 2 ^ o ≤ 32 := Nat.le_of_dvd (by omega) hdv
  have H := Lib.hid h
  have HWP := Lib.hid hwp
  clear h hwp
  go_enter Try.func52, Try.ntmps52
  go_wp2_with fail
  rw [HWP.out]
  clear HWP
  generalize hs : 2 ^ o = s at *
  have HS := Lib.hid hs
  clear hs
  go_loop [11] (fun i => ZRel S s mov i) (fun i => (intOf i).toNat)
  case atStart => exact ⟨3, by omega, by omega, rfl, fun h => by omega, fun h => by omega⟩
  case round =>
    obtain ⟨z, hz1, hz3, rfl, hT⟩ := hrel
    by_cases hlt : z < 2
    · have post : RAllocPost w v S s use mov (.returned (.tuple #[.int .i64 0, .int .i64 4])) w :=
        ⟨0, false, .inr ⟨rfl, rfl, hT.1 (by omega), hT.2 hlt⟩, rfl, by rw [if_neg (by decide), allocU_zero]; exact H.out, Chg.refl _ _⟩
      clear hT H HS
      go_wp2_with fail
      go_ret2
      exact post
    · by_cases hsk : z = 3 ∧ mov = false
      · obtain ⟨rfl, rfl⟩ := hsk
        have nx : ZRel S s false (.int .i64 2) := ⟨2, by omega, by omega, rfl, fun _ h => (by cases h), fun h => by omega⟩
        clear hT
        go_wp2_with fail
        exact ⟨nx, by simp [intOf]⟩
      · have nx : NoneG S.U S.Z S.I z s → ZRel S s mov (.int .i64 (z - 1)) := by
          intro hN
          refine ⟨z - 1, by omega, by omega, rfl, fun h1 h2 => ?_, fun h1 => ?_⟩
          · by_cases c : z = 3
            · subst c; exact hN
            · exact hT.1 (by omega) h2
          · by_cases c : z = 2
            · subst c; exact hN
            · omega
        have fo : ∀ f, FirstG S.U S.Z S.I z s f → AllocSpec S.U S.Z S.I s mov f true := by
          intro f hf
          refine .inl ⟨rfl, ?_⟩
          by_cases c : z = 3
          · subst c
            have hm : mov = true := by
              cases mov
              · exact absurd ⟨rfl, rfl⟩ hsk
              · rfl
            exact .inl ⟨hm, hf⟩
          · obtain rfl : z = 2 := by omega
            exact .inr ⟨hT.1 (by omega), hf⟩
        have hzz : ((z == 3) = true ∧ mov = true) ∨ (z == 3) = false := by
          by_cases c : z = 3
          · subst c
            cases mov
            · exact absurd ⟨rfl, rfl⟩ hsk
            · exact .inl ⟨rfl, rfl⟩
          · exact .inr (beq_eq_false_iff_ne.mpr c)
        have fin : ∀ f w', FirstG S.U S.Z S.I z s f → RR w' v { S with U := allocU S.U f s use } → Chg (· = v) w w' → RAllocPost w v S s use mov (.returned (.tuple #[.int .i64 f, .int .i64 0])) w' :=
          fun f w' h1 h2 h3 => ⟨f, true, fo f h1, rfl, h2, h3⟩
        have NX := Lib.hid (And.intro nx fin)
        clear nx fo fin hT hsk
        rcases hzz with ⟨e3, rfl⟩ | e3
        all_goals
          go_wp2_with fail
          go_loop [12] (fun i => FRel S s z i) (fun i => (1024 - intOf i).toNat)
          case atStart => exact ⟨0, Nat.zero_mod s, by omega, rfl, fun g hg => by omega⟩
          case round =>
            obtain ⟨f, hf0, hf1, rfl, hno⟩ := hrel
            by_cases hlt : f < 1024
            · have hfs : f + s ≤ 1024 := by
                have := (div_sect s hdv f (f / 32) hf0).mpr ⟨rfl, hs1⟩
                omega
              have hcz := H.out.zone (f / 32) (by omega)
              have hci := H.out.iso (f / 32) (by omega)
              have gb := good_b S z s f hf0 hfs
              generalize S.Z (f / 32) = zz at *
              generalize S.I (f / 32) = ii at *
              have hbb : ((zz == z) = true ∧ ii = false) ∨ ((zz == z) = true ∧ ii = true) ∨ (zz == z) = false := by
                cases (zz == z) <;> cases ii <;> simp
              have gN : ((zz == z && !ii) && allF S f s) = false → FRel S s z (.int .i64 ((f : Int) + s)) := by
                intro hf
                refine ⟨f + s, by rw [Nat.add_mod_right]; exact hf0, hfs, rfl, fun g hg hG => ?_⟩
                by_cases c : g < f
                · exact hno g c hG
                · by_cases c2 : g = f
                  · subst c2; rw [gb.mpr hG] at hf; cases hf
                  · have h1 := hG.1
                    have : (g - f) % s = 0 := by
                      have := Nat.sub_mod_eq_zero_of_mod_eq (h1.trans hf0.symm); exact this
                    rw [Nat.mod_eq_of_lt (by omega)] at this
                    omega
              have gY : ((zz == z && !ii) && allF S f s) = true → FirstG S.U S.Z S.I z s f := fun hf => ⟨gb.mp hf, hno⟩
              have HG := Lib.hid (And.intro gN gY)
              clear gN gY gb hno hf0
              have bb : ∃ b0, (zz == z && !ii) = b0 := ⟨_, rfl⟩
              obtain ⟨b0, hb0⟩ := bb
              rw [hb0] at HG
              rcases hbb with ⟨q1, rfl⟩ | ⟨q1, rfl⟩ | q1
              all_goals
                rw [q1] at hb0
                have hb1 := Lib.hid hb0
                clear hb0
                go_wp2_with fail
                go_loop [13, 14] (fun x i => KRel S s f b0 x i) (fun x i => ((f : Int) + s - intOf i).toNat)
                case atStart => exact ⟨0, by omega, rfl, by rw [← hb1.out]; rfl⟩
                case round =>
                  obtain ⟨k, hk, rfl, rfl⟩ := hrel
                  by_cases hks : k < s
                  · have hcu := H.out.use (f + k) (by omega)
                    have nx : ∀ x : Bool, x = (b0 && allF S f (k + 1)) → KRel S s f b0 (.bool x) (.int .i64 (((f + k : Nat) : Int) + 1)) := fun x hx => ⟨k + 1, by omega, rfl, by rw [hx]⟩
                    rw [allF_succ, ← Bool.and_assoc] at nx
                    have NY := Lib.hid nx
                    clear nx
                    generalize S.U (f + k) = u at *
                    generalize (b0 && allF S f k) = bk at *
                    have q1 : f + k < 1024 := by omega
                    cases bk
                    · go_wp2_with fail
                      exact ⟨NY.out false rfl, by simp [intOf]; omega⟩
                    · go_wp2_with fail
                      exact ⟨NY.out (u == 1) rfl, by simp [intOf]; omega⟩
                  · obtain rfl : k = s := by omega
                    generalize (b0 && allF S f k) = bk at *
                    cases bk
                    · have N := HG.out.1 rfl
                      clear HG NX
                      go_wp2_with fail
                      exact ⟨N, by simp [intOf]; omega⟩
                    · have F := HG.out.2 rfl
                      have FX := fun w' h1 h2 => NX.out.2 f w' F h1 h2
                      have NF := Lib.hid FX
                      clear HG NX FX F
                      go_wp2_with fail
                      go_loopw [15] (fun i wr => WRel w v S f k use i wr) (fun i wr => ((f : Int) + k - intOf i).toNat)
                      case atStart => exact ⟨0, by omega, rfl, by rw [allocU_zero]; exact H.out, Chg.refl _ _⟩
                      case round =>
                        obtain ⟨j, hj, rfl, hR, hC⟩ := hrel
                        by_cases hjk : j < k
                        · have hcu := hR.use (f + j) (by omega)
                          have hfz := hR.frz (f + j)
                          have nx : WRel w v S f k use (.int .i64 (((f + j : Nat) : Int) + 1)) (wr.setCell ⟨v, f + j, none⟩ (.int .i64 use)) := by
                            refine ⟨j + 1, by omega, rfl, ?_, hC.set (.inl rfl) _⟩
                            have := hR.setUse (f + j) (by omega) use
                            rw [show upd ({ S with U := allocU S.U f j use } : PS).U (f + j) use = allocU S.U f (j + 1) use from allocU_succ _ _ _ _] at this
                            exact this
                          have NY := Lib.hid nx
                          have q1 : f + j < 1024 := by omega
                          clear nx hR hC
                          generalize ({ S with U := allocU S.U f j use } : PS).U (f + j) = u at *
                          go_wp2_with fail
                          exact ⟨NY.out, by simp [intOf]; omega⟩
                        · obtain rfl : j = k := by omega
                          have post := NF.out wr hR hC
                          clear hR hC NF
                          go_wp2_with fail
                          go_ret2
                          exact post
            · have hN : NoneG S.U S.Z S.I z s := by
                intro g hG
                have := hG.2.1
                exact hno g (by omega) hG
              have N := NX.out.1 hN
              clear NX hno hN
              go_wp2_with fail
              exact ⟨N, by simp [intOf]; omega⟩
end Go.Proofs.Ytlhlnkfmmklkbaa.Pool
