import Derived.Test.YtimdojkhdneecaaHp
namespace Go.Proofs.Ytimdojkhdneecaa.Runs
open Go.RowKit Go.Proofs.Ytimdojkhdneecaa.Hp
set_option linter.unusedVariables false
set_option linter.unusedSimpArgs false
/-- A set of numbers in memory: its struct's block, its numbers' block, what is in. -/
structure RSet (w : World) (b bi : Nat) (L : List Int) : Prop where
  st : Blk w b #[.slice (some ⟨bi, 0, none⟩) L.length L.length] 109
  xs : Blk w bi (L.map (Value.int .u8)).toArray 5
  ne : b ≠ bi
  le : L.length ≤ 1024
theorem RSet.chg {S : Nat → Prop} {w w' : World} {b bi : Nat} {L : List Int} (h : RSet w b bi L) (hc : Chg S w w') (h1 : ¬ S b) (h2 : ¬ S bi) : RSet w' b bi L :=
  ⟨hc.blk h.st h1, hc.blk h.xs h2, h.ne, h.le⟩
theorem RSet.c0 {w : World} {b bi : Nat} {L : List Int} (h : RSet w b bi L) : w.cell? ⟨b, 0, none⟩ = some (.slice (some ⟨bi, 0, none⟩) L.length L.length) := by rw [bcell h.st]; rfl
theorem RSet.ci {w : World} {b bi : Nat} {L : List Int} (h : RSet w b bi L) (i : Nat) (hi : i < L.length) : w.cell? ⟨bi, i, none⟩ = some (.int .u8 (L.getD i 0)) := by
  rw [bcell h.xs]; simp [hi]
def clampF (n : Int) : Nat := if n < 0 then 0 else if n > 1024 then 1024 else n.toNat
def NewPost (n : Int) (w : World) (e : Ending) (w' : World) : Prop := ∃ b bi, e = .returned (.pointer (some ⟨b, 0, none⟩)) ∧ RSet w' b bi (List.replicate (clampF n) 0) ∧ w.heap.size ≤ b ∧ w.heap.size ≤ bi ∧ Chg NoB w w'
theorem new_fin (w : World) (m : Nat) (hm : m ≤ 1024) (A : Array Value) (hA : A = Array.replicate m (.int .u8 0)) :
    RSet ((w.alloc (.cells A 5)).alloc (.cells #[.slice (some ⟨w.heap.size, 0, none⟩) m m] 109)) (w.heap.size + 1) w.heap.size (List.replicate m 0) := by
  refine ⟨?_, ?_, by omega, by simpa using hm⟩
  · rw [List.length_replicate]; exact bnew' (by simp) _
  · rw [show ((List.replicate m (0 : Int)).map (Value.int .u8)).toArray = A from by rw [hA]; simp]; exact balloc (bnew _ _) _
theorem new_any (n : Int) (w : World) : Calls Try.prog 41 #[.int .i64 n] w (NewPost n w) := by
  have info : (Try.prog.info? 5).map (fun i => (i.zero, i.size, i.bytes)) = some (some (.int .u8 0), 1, 1) := by kernel_rfl
  have hmk := fun (m : Int) (h0 : 0 ≤ m) (h1 : m ≤ 1024) => run_make1 (P := Try.prog) 98 5 (.int .u8 0) 1 Try.underlying98 info rfl m h0 (by omega) (by omega)
  clear info
  have main : ∀ m : Int, 0 ≤ m → m ≤ 1024 → clampF n = m.toNat → (n < 0 ∧ m = 0 ∨ 1024 < n ∧ m = 1024 ∨ 0 ≤ n ∧ n ≤ 1024 ∧ n = m) → Calls Try.prog 41 #[.int .i64 n] w (NewPost n w) := by
    intro m h0 h1 hc hm
    have hk := hmk m h0 h1
    generalize hA : Array.replicate m.toNat (Value.int .u8 0) = A at hk
    have F := new_fin w m.toNat (by omega) A hA.symm
    generalize hM : m.toNat = M at hk F hc
    have post : NewPost n w (.returned (.pointer (some ⟨w.heap.size + 1, 0, none⟩))) ((w.alloc (.cells A 5)).alloc (.cells #[.slice (some ⟨w.heap.size, 0, none⟩) M M] 109)) :=
      ⟨_, _, rfl, by rw [hc]; exact F, by omega, by omega, ((Chg.refl _ _).alloc _).alloc _⟩
    clear hA hM hc F hmk
    rcases hm with ⟨c, rfl⟩ | ⟨c, rfl⟩ | ⟨c, d, rfl⟩
    all_goals
      go_enter Try.func41, Try.ntmps41
      go_wp2
      go_ret
      exact post
  by_cases c : n < 0
  · exact main 0 (by omega) (by omega) (by unfold clampF; rw [if_pos c]; rfl) (.inl ⟨c, rfl⟩)
  · by_cases d : n > 1024
    · exact main 1024 (by omega) (by omega) (by unfold clampF; rw [if_neg c, if_pos d]; rfl) (.inr (.inl ⟨d, rfl⟩))
    · exact main n (by omega) (by omega) (by unfold clampF; rw [if_neg c, if_neg d]) (.inr (.inr ⟨by omega, by omega, rfl⟩))
def put1 (v : Int) (L : List Int) (f : Int) : List Int := if 0 ≤ f ∧ f < (L.length : Int) then L.set f.toNat v else L
def putL (v : Int) (L : List Int) (F : List Int) : List Int := F.foldl (put1 v) L
theorem put1_length (v : Int) (L : List Int) (f : Int) : (put1 v L f).length = L.length := by unfold put1; split <;> simp
theorem putL_length (v : Int) (L F : List Int) : (putL v L F).length = L.length := by
  unfold putL
  induction F generalizing L with
  | nil => rfl
  | cons f F ih => rw [List.foldl_cons, ih, put1_length]
theorem putL_snoc (v : Int) (L F : List Int) (f : Int) : putL v L (F ++ [f]) = put1 v (putL v L F) f := by simp [putL]
theorem RSet.put {w : World} {b bi : Nat} {L : List Int} (h : RSet w b bi L) (v : Int) (i : Nat) : RSet (w.setCell ⟨bi, i, none⟩ (.int .u8 v)) b bi (L.set i v) := by
  refine ⟨?_, ?_, h.ne, by simpa using h.le⟩
  · rw [List.length_set]; exact bfar h.st h.ne _
  · have := bset h.xs i (.int .u8 v)
    rw [show ((L.set i v).map (Value.int .u8)).toArray = (L.map (Value.int .u8)).toArray.setIfInBounds i (.int .u8 v) from by simp [List.map_set]]
    exact this
def PutRel (w : World) (b bi : Nat) (L : List Int) (v : Int) (F : List Int) (i : Value) (wr : World) : Prop :=
  ∃ k : Nat, k ≤ F.length ∧ i = .int .i64 k ∧ RSet wr b bi (putL v L (F.take k)) ∧ Chg (· = bi) w wr
def PutPost (w : World) (b bi : Nat) (L : List Int) (v : Int) (F : List Int) (e : Ending) (w' : World) : Prop :=
  e = .returned (.tuple #[]) ∧ RSet w' b bi (putL v L F) ∧ Chg (· = bi) w w'
set_option maxHeartbeats 1000000 in
theorem put_any (b bi : Nat) (L : List Int) (v : Int) (A : Option Addr) (c : Nat) (F : List Int) (w : World) (h : RSet w b bi L) (hF : Rd w .i64 A F) (ho : 0 < F.length → Off A (· = bi)) :
    Calls Try.prog 71 #[.pointer (some ⟨b, 0, none⟩), .int .u8 v, .slice A F.length c] w (PutPost w b bi L v F) := by
  have hlen := hF.1
  go_enter Try.func71, Try.ntmps71
  go_wp2
  go_loopw [10] (fun i wr => PutRel w b bi L v F i wr) (fun i wr => F.length - (intOf i).toNat)
  case atStart => exact ⟨0, by omega, rfl, by simpa [putL] using h, Chg.refl _ _⟩
  case round =>
    obtain ⟨k, hk, rfl, hR, hC⟩ := hrel
    by_cases hlt : k < F.length
    · obtain ⟨ad, rfl, hc⟩ := (hF.chg hC ho).at_ k hlt
      have hs := hR.c0
      have hfr := fun i => bfroz hR.xs i
      have hnx : F.take (k + 1) = F.take k ++ [F.getD k 0] := take_succ_getD F k hlt
      have hsn := putL_snoc v L (F.take k) (F.getD k 0)
      rw [← hnx] at hsn
      generalize F.getD k 0 = f at *
      generalize putL v L (F.take k) = L1 at *
      have HS := Lib.hid hsn
      clear hsn hnx
      have go : ∀ L2 wr', put1 v L1 f = L2 → RSet wr' b bi L2 → Chg (· = bi) w wr' → PutRel w b bi L v F (.int .i64 ((k : Int) + 1)) wr' := by
        intro L2 wr' e1 e2 e3
        exact ⟨k + 1, by omega, rfl, by rw [HS.out, e1]; exact e2, e3⟩
      clear HS hF h
      by_cases c1 : 0 ≤ f
      · by_cases c2 : f < (L1.length : Int)
        · have e1 := go (L1.set f.toNat v) (wr.setCell ⟨bi, f.toNat, none⟩ (.int .u8 v)) (by unfold put1; rw [if_pos ⟨c1, c2⟩]) (hR.put v f.toNat) (hC.set (.inl rfl) _)
          have hci := hR.ci f.toNat (by omega)
          clear go
          go_wp2
          go_roundw
          case rel => exact e1
          case measure => simp [intOf]; omega
        · have e1 := go L1 wr (by unfold put1; rw [if_neg (fun hh => c2 hh.2)]) hR hC
          clear go
          go_wp2
          go_roundw
          case rel => exact e1
          case measure => simp [intOf]; omega
      · have e1 := go L1 wr (by unfold put1; rw [if_neg (fun hh => c1 hh.1)]) hR hC
        clear go
        go_wp2
        go_roundw
        case rel => exact e1
        case measure => simp [intOf]; omega
    · obtain rfl : k = F.length := by omega
      rw [List.take_length] at hR
      have post : PutPost w b bi L v F (.returned (.tuple #[])) wr := ⟨rfl, hR, hC⟩
      clear hR hC
      go_wp2
      go_end0
      exact post
/-- f begins a run of s numbers that are in, between two places. -/
def IsRun (L : List Int) (s : Nat) (fr tt : Int) (f : Nat) : Prop := f % s = 0 ∧ fr ≤ f ∧ (f : Int) + s ≤ tt ∧ f + s ≤ L.length ∧ ∀ k, k < s → L.getD (f + k) 0 = 1
def RunSpec (L : List Int) (s : Nat) (fr tt : Int) (f : Nat) (ok : Bool) : Prop :=
  (ok = true ∧ IsRun L s fr tt f ∧ ∀ g, g < f → ¬ IsRun L s fr tt g) ∨ (ok = false ∧ f = 0 ∧ ∀ g, ¬ IsRun L s fr tt g)
/-- The state of the search at f: n are in since the last multiple. -/
def RunInv (L : List Int) (s : Nat) (fr tt : Int) (f n : Nat) : Prop :=
  fr ≤ ((f - f % s : Nat) : Int) ∧ n ≤ s ∧ (f % s ≠ 0 → (n ≤ f % s ∧ (n = f % s ↔ ∀ k, k < f % s → L.getD (f - f % s + k) 0 = 1))) ∧ ∀ g, IsRun L s fr tt g → f < g + s
theorem inv_step (L : List Int) (s : Nat) (hs : 0 < s) (fr tt : Int) (f n : Nat) (h : RunInv L s fr tt f n) (m : Nat) (hm : m = (if f % s = 0 then 0 else n) + (if L.getD f 0 = 1 then 1 else 0)) (hno : ¬ (f % s = s - 1 ∧ m = s)) :
    RunInv L s fr tt (f + 1) m := by
  obtain ⟨h1, h2, h3, h4⟩ := h
  have hb : (if L.getD f 0 = 1 then 1 else 0) ≤ 1 := by split <;> omega
  have hlt : f % s < s := Nat.mod_lt _ hs
  by_cases c : f % s = s - 1
  · -- the group is over
    have e : (f + 1) % s = 0 := by rw [Nat.add_mod, c]; by_cases s1 : s = 1; · subst s1; omega
                                   rw [Nat.mod_eq_of_lt (show 1 < s by omega), show s - 1 + 1 = s from by omega, Nat.mod_self]
    have hms : m < s := by
      have : m ≤ s := by
        rw [hm]; split
        · omega
        · have := (h3 ‹_›).1; omega
      omega
    refine ⟨by rw [e]; omega, by omega, fun hh => absurd e hh, fun g hg => ?_⟩
    have hg4 := h4 g hg
    by_cases d : g + s = f + 1
    · exfalso
      apply hno
      refine ⟨c, ?_⟩
      have ha := hg.2.2.2.2
      have h1f : L.getD f 0 = 1 := by have := ha (s - 1) (by omega); rwa [show g + (s - 1) = f from by omega] at this
      rw [hm, if_pos h1f]
      by_cases z : f % s = 0
      · rw [if_pos z]; omega
      · rw [if_neg z]
        have := (h3 z).2.mpr (fun k hk => by have := ha k (by omega); rwa [show f - f % s = g from by omega])
        omega
    · omega
  · have e : (f + 1) % s = f % s + 1 := by
      rw [Nat.add_mod, Nat.mod_eq_of_lt (show 1 < s by omega), Nat.mod_eq_of_lt (by omega)]
    have eb : f + 1 - (f % s + 1) = f - f % s := by omega
    refine ⟨by rw [e, eb]; exact h1, ?_, fun _ => ?_, fun g hg => ?_⟩
    · rw [hm]; split
      · omega
      · have := (h3 ‹_›).1; omega
    · rw [e, eb]
      by_cases z : f % s = 0
      · rw [if_pos z] at hm
        refine ⟨by omega, ?_⟩
        rw [z] at *
        constructor
        · intro hh k hk
          obtain rfl : k = 0 := by omega
          by_cases o : L.getD f 0 = 1
          · simpa using o
          · rw [if_neg o] at hm; omega
        · intro hh
          have := hh 0 (by omega)
          rw [hm, if_pos (by simpa using this)]
      · rw [if_neg z] at hm
        obtain ⟨i1, i2⟩ := h3 z
        refine ⟨by omega, ?_⟩
        constructor
        · intro hh k hk
          by_cases o : L.getD f 0 = 1
          · rw [if_pos o] at hm
            by_cases kk : k = f % s
            · subst kk; rwa [show f - f % s + f % s = f from by have := Nat.mod_le f s; omega]
            · exact i2.mp (by omega) k (by omega)
          · rw [if_neg o] at hm; omega
        · intro hh
          have o := hh (f % s) (by omega)
          rw [show f - f % s + f % s = f from by have := Nat.mod_le f s; omega] at o
          rw [if_pos o] at hm
          have := i2.mpr (fun k hk => hh k (by omega))
          omega
    · have hg4 := h4 g hg
      by_cases d : g + s = f + 1
      · exfalso
        have hgm := hg.1
        have : (g + s) % s = 0 := by rw [Nat.add_mod_right]; exact hgm
        rw [d, e] at this; omega
      · omega
theorem inv_found (L : List Int) (s : Nat) (hs : 0 < s) (fr tt : Int) (f n : Nat) (hto : (f : Int) < tt) (hl : f < L.length) (h : RunInv L s fr tt f n) (m : Nat) (hm : m = (if f % s = 0 then 0 else n) + (if L.getD f 0 = 1 then 1 else 0)) (hyes : f % s = s - 1 ∧ m = s) :
    RunSpec L s fr tt (f + 1 - s) true := by
  obtain ⟨h1, h2, h3, h4⟩ := h
  obtain ⟨y1, y2⟩ := hyes
  have hmod := Nat.mod_le f s
  have eb : f - f % s = f + 1 - s := by omega
  refine .inl ⟨rfl, ⟨?_, ?_, by omega, by omega, ?_⟩, fun g hg hr => by have := h4 g hr; omega⟩
  · rw [← eb]
    have := Nat.div_add_mod f s
    rw [show f - f % s = s * (f / s) from by omega]; exact Nat.mul_mod_right _ _
  · rw [← eb]; exact h1
  · intro k hk
    have o : L.getD f 0 = 1 := by
      by_cases o : L.getD f 0 = 1
      · exact o
      · rw [if_neg o] at hm
        exfalso
        by_cases z : f % s = 0
        · rw [if_pos z] at hm; omega
        · rw [if_neg z] at hm; have := (h3 z).1; omega
    rw [if_pos o] at hm
    by_cases kk : k = s - 1
    · subst kk; rwa [show f + 1 - s + (s - 1) = f from by omega]
    · have z : f % s ≠ 0 := by omega
      rw [if_neg z] at hm
      have := (h3 z).2.mp (by omega) k (by omega)
      rwa [eb] at this
theorem inv_none (L : List Int) (s : Nat) (fr tt : Int) (f n : Nat) (h : RunInv L s fr tt f n) (hf : tt ≤ (f : Int) ∨ L.length ≤ f) : RunSpec L s fr tt 0 false := by
  refine .inr ⟨rfl, rfl, fun g hg => ?_⟩
  have := h.2.2.2 g hg
  obtain ⟨_, _, h3, h4, _⟩ := hg
  omega
def clampI (n : Int) : Int := if n < 0 then 0 else if n > 1024 then 1024 else n
theorem run_clamp (L : List Int) (s : Nat) (hs : 0 < s) (hle : L.length ≤ 1024) (ff tt : Int) (f : Nat) : IsRun L s (clampI ff) (if tt < L.length then tt else (L.length : Int)) f ↔ IsRun L s ff tt f := by
  unfold IsRun clampI
  constructor
  · rintro ⟨h1, h2, h3, h4, h5⟩
    exact ⟨h1, by split at h2 <;> (try split at h2) <;> omega, by split at h3 <;> omega, h4, h5⟩
  · rintro ⟨h1, h2, h3, h4, h5⟩
    exact ⟨h1, by split <;> (try split) <;> omega, by split <;> omega, h4, h5⟩
theorem spec_clamp (L : List Int) (s : Nat) (hs : 0 < s) (hle : L.length ≤ 1024) (ff tt : Int) (f : Nat) (ok : Bool) : RunSpec L s (clampI ff) (if tt < L.length then tt else (L.length : Int)) f ok ↔ RunSpec L s ff tt f ok := by
  unfold RunSpec
  simp only [run_clamp L s hs hle]
theorem inv_start (L : List Int) (s : Nat) (hs : 0 < s) (fr tt : Int) (f : Nat) (h1 : f % s = 0) (h2 : fr ≤ f) (h3 : (f : Int) < fr + s) : RunInv L s fr tt f 0 :=
  ⟨by rw [h1]; simpa using h2, by omega, fun h => absurd h1 h, fun g hg => by have := hg.2.1; omega⟩
theorem start_at (s : Nat) (hs : 1 ≤ s) (hs2 : s ≤ 32) (fr : Int) (h0 : 0 ≤ fr) (h1 : fr ≤ 1024) :
    ∃ f0 : Nat, wrap64 ((fr + s - 1) / s * s) = (f0 : Int) ∧ f0 % s = 0 ∧ fr ≤ f0 ∧ (f0 : Int) < fr + s ∧ f0 ≤ 1056 := by
  obtain ⟨a, rfl⟩ := Int.eq_ofNat_of_zero_le h0
  have e : ((a : Int) + s - 1) / s * s = (((a + s - 1) / s * s : Nat) : Int) := by
    rw [show ((a : Int) + s - 1) = ((a + s - 1 : Nat) : Int) from by omega, ← Int.natCast_ediv, ← Int.natCast_mul]
  have hd := Nat.div_add_mod (a + s - 1) s
  have hm := Nat.mod_lt (a + s - 1) (show 0 < s by omega)
  rw [Nat.mul_comm] at hd
  refine ⟨(a + s - 1) / s * s, ?_, Nat.mul_mod_left _ _, ?_, ?_, ?_⟩
  · rw [e]
    generalize (a + s - 1) / s * s = q at *
    unfold wrap64; omega
  all_goals generalize (a + s - 1) / s * s = q at *; omega
theorem mEq (f s n : Nat) (v : Int) (bz bo : Bool) (hz : ((f : Int) % (s : Int) == 0) = bz) (ho : (v == 1) = bo) :
    (if bz then 0 else n) + (if bo then 1 else 0) = (if f % s = 0 then 0 else n) + (if v = 1 then 1 else 0) := by
  have e : ((f : Int) % (s : Int) == 0) = decide (f % s = 0) := by
    rw [← Int.natCast_emod]
    by_cases h : f % s = 0
    · rw [h]; simp
    · rw [decide_eq_false h]; apply beq_eq_false_iff_ne.mpr; omega
  rw [e] at hz
  subst hz ho
  by_cases h : f % s = 0 <;> by_cases g : v = 1 <;> simp [h, g]
theorem yesA (f s : Nat) (hs : 1 ≤ s) (h : (f : Int) % (s : Int) = (s : Int) - 1) : f % s = s - 1 := by
  rw [← Int.natCast_emod] at h; omega
theorem yesB (m s : Nat) (h : ((m : Int) == (s : Int)) = true) : m = s := by have := beq_iff_eq.mp h; omega
theorem noA (f s m : Nat) (hs : 1 ≤ s) (h : ¬ (f : Int) % (s : Int) = (s : Int) - 1) : ¬ (f % s = s - 1 ∧ m = s) := by
  rw [← Int.natCast_emod] at h; omega
theorem noB (f s m : Nat) (h : ((m : Int) == (s : Int)) = false) : ¬ (f % s = s - 1 ∧ m = s) := by
  have := beq_eq_false_iff_ne.mp h; omega
def RunPost (L : List Int) (s : Nat) (fr tt : Int) (w : World) (e : Ending) (w' : World) : Prop :=
  ∃ f ok, e = .returned (.tuple #[.int .i64 (f : Nat), .bool ok]) ∧ RunSpec L s fr tt f ok ∧ Chg NoB w w'
def RunRel (L : List Int) (s : Nat) (fr tt : Int) (n f : Value) : Prop := ∃ (i m : Nat), f = .int .i64 i ∧ n = .int .i64 m ∧ RunInv L s fr tt i m ∧ i ≤ 2048
def CutA (ff tt : Int) (n : Nat) (w : World) (v2 v3 : Value) (wc : World) : Prop := ∃ k : Nat, wc = w.drewN k ∧ v2 = .int .i64 (clampI ff) ∧ v3 = .int .i64 (if tt < n then tt else n)
set_option maxHeartbeats 4000000 in
theorem run_yes (b bi : Nat) (L : List Int) (o : Nat) (ho : o ≤ 5) (ff tt : Int) (w : World) (h : RSet w b bi L) :
    Calls Try.prog 72 #[.pointer (some ⟨b, 0, none⟩), .int .i64 o, .int .i64 ff, .int .i64 tt] w (RunPost L (2 ^ o) ff tt w) := by
  have hs := h.c0
  have hle := h.le
  go_enter Try.func72, Try.ntmps72
  go_upto_region 4 with fail
  go_cut [2, 3] (fun v2 v3 wc => CutA ff tt L.length w v2 v3 wc)
  case first =>
    have fin : ∀ v2 v3 : Int, v2 = clampI ff → v3 = (if tt < L.length then tt else (L.length : Int)) → ∀ k, CutA ff tt L.length w (.int .i64 v2) (.int .i64 v3) (w.drewN k) := fun v2 v3 e2 e3 k => ⟨k, rfl, by rw [e2], by rw [e3]⟩
    unfold clampI at fin
    have hc : ff < 0 ∨ (0 ≤ ff ∧ ff ≤ 1024) ∨ 1024 < ff := by omega
    rcases hc with c2 | ⟨c2, c3⟩ | c2
    all_goals by_cases c1 : tt < L.length
    all_goals
      have F := Lib.hid fin
      clear fin
      go_quiet (fail)
      all_goals
        go_wp2_with fail
        all_goals
          go_meet
          case rel => exact F.out _ _ (by split <;> (try split) <;> omega) (by split <;> (try split) <;> omega) _
  case rest =>
    obtain ⟨k, rfl, rfl, rfl⟩ := hcut
    have hfr : 0 ≤ clampI ff ∧ clampI ff ≤ 1024 := by unfold clampI; split <;> (try split) <;> omega
    have htt : (if tt < L.length then tt else (L.length : Int)) ≤ L.length := by split <;> omega
    have post : ∀ f ok n, RunSpec L (2 ^ o) (clampI ff) (if tt < L.length then tt else (L.length : Int)) f ok → RunPost L (2 ^ o) ff tt w (.returned (.tuple #[.int .i64 (f : Nat), .bool ok])) (w.drewN n) := by
      intro f ok n hh
      refine ⟨f, ok, rfl, ?_, (Chg.refl _ _).drewN _⟩
      exact (spec_clamp L (2 ^ o) (Nat.two_pow_pos o) hle ff tt f ok).mp hh
    have P := Lib.hid post
    have H := Lib.hid h
    clear post h
    generalize clampI ff = fr at *
    generalize (if tt < L.length then tt else (L.length : Int)) = t1 at *
    have hz : wrap64 (2 ^ o) = ((2 ^ o : Nat) : Int) := by
      have ho' : o = 0 ∨ o = 1 ∨ o = 2 ∨ o = 3 ∨ o = 4 ∨ o = 5 := by omega
      rcases ho' with rfl | rfl | rfl | rfl | rfl | rfl <;> simp [wrap64]
    have hs1 : 1 ≤ 2 ^ o := Nat.two_pow_pos o
    have hs2 : 2 ^ o ≤ 32 := Nat.pow_le_pow_right (n := 2) (by omega) ho
    rw [hz]
    clear hz
    generalize 2 ^ o = s at *
    have hne : ((s : Int) == 0) = false := by apply beq_eq_false_iff_ne.mpr; omega
    obtain ⟨f0, e0, e1, e2, e3, e4⟩ := start_at s hs1 hs2 fr hfr.1 hfr.2
    have E0 := Lib.hid e0
    clear e0
    go_wp2_with fail
    go_loop [11, 12] (fun n f => RunRel L s fr t1 n f) (fun _ f => (t1 - intOf f).toNat)
    case atStart => exact ⟨f0, 0, by rw [E0.out], rfl, inv_start L s hs1 fr t1 f0 e1 e2 e3, by omega⟩
    case round =>
      obtain ⟨f, n, rfl, rfl, hI, hf⟩ := hrel
      by_cases c1 : (f : Int) < t1
      · have hfl : f < L.length := by omega
        have hci := (H.out).ci f hfl
        have hn : n ≤ s := hI.2.1
        have hmf : f % s < s := Nat.mod_lt _ hs1
        have hms : f % s ≤ f := Nat.mod_le _ _
        have st : ∀ m : Nat, m = (if f % s = 0 then 0 else n) + (if L.getD f 0 = 1 then 1 else 0) → ¬ (f % s = s - 1 ∧ m = s) → RunRel L s fr t1 (.int .i64 m) (.int .i64 ((f : Int) + 1)) :=
          fun m hm hno => ⟨f + 1, m, rfl, rfl, inv_step L s hs1 fr t1 f n hI m hm hno, by omega⟩
        have fo : ∀ m : Nat, m = (if f % s = 0 then 0 else n) + (if L.getD f 0 = 1 then 1 else 0) → (f % s = s - 1 ∧ m = s) → RunPost L s ff tt w (.returned (.tuple #[.int .i64 ((f : Int) + 1 - s), .bool true])) (w.drewN k) := by
          intro m hm hy
          have := P.out _ _ k (inv_found L s hs1 fr t1 f n c1 hfl hI m hm hy)
          rwa [show ((f + 1 - s : Nat) : Int) = (f : Int) + 1 - s from by omega] at this
        have ST := Lib.hid st
        have FO := Lib.hid fo
        clear st fo hI
        generalize L.getD f 0 = v at *
        go_wp2_with fail
        · go_ret2
          exact FO.out 1 (mEq f s n v true true (by assumption) (by assumption)) ⟨yesA f s hs1 (by assumption), yesB 1 s (by assumption)⟩
        · exact ⟨ST.out 1 (mEq f s n v true true (by assumption) (by assumption)) (noA f s 1 hs1 (by assumption)), by simp [intOf]; omega⟩
        · exact ⟨ST.out 0 (mEq f s n v true false (by assumption) (by assumption)) (noB f s 0 (by assumption)), by simp [intOf]; omega⟩
        · exact ⟨ST.out 0 (mEq f s n v true false (by assumption) (by assumption)) (noA f s 0 hs1 (by assumption)), by simp [intOf]; omega⟩
        · go_ret2
          exact FO.out (n + 1) (mEq f s n v false true (by assumption) (by assumption)) ⟨yesA f s hs1 (by assumption), yesB (n + 1) s (by assumption)⟩
        · exact ⟨ST.out (n + 1) (mEq f s n v false true (by assumption) (by assumption)) (noB f s (n + 1) (by assumption)), by simp [intOf]; omega⟩
        · exact ⟨ST.out (n + 1) (mEq f s n v false true (by assumption) (by assumption)) (noA f s (n + 1) hs1 (by assumption)), by simp [intOf]; omega⟩
        · go_ret2
          exact FO.out n (mEq f s n v false false (by assumption) (by assumption)) ⟨yesA f s hs1 (by assumption), yesB n s (by assumption)⟩
        · exact ⟨ST.out n (mEq f s n v false false (by assumption) (by assumption)) (noB f s n (by assumption)), by simp [intOf]; omega⟩
        · exact ⟨ST.out n (mEq f s n v false false (by assumption) (by assumption)) (noA f s n hs1 (by assumption)), by simp [intOf]; omega⟩
      · have post := P.out 0 false k (inv_none L s fr t1 f n hI (.inl (by omega)))
        clear hI
        go_wp2_with fail
        go_ret2
        exact post
theorem add_any (b bi : Nat) (L : List Int) (A : Option Addr) (c : Nat) (F : List Int) (w : World) (h : RSet w b bi L) (hF : Rd w .i64 A F) (ho : 0 < F.length → Off A (· = bi)) :
    Calls Try.prog 60 #[.pointer (some ⟨b, 0, none⟩), .slice A F.length c] w (PutPost w b bi L 1 F) := by
  go_enter Try.func60, Try.ntmps60
  go_wp2_with fail
  refine (put_any b bi L 1 A c F _ h hF ho).mono ?_
  rintro e w1 ⟨rfl, hR, hC⟩
  go_wp2_with fail
  go_end0
  exact ⟨rfl, hR, hC⟩
theorem drop_any (b bi : Nat) (L : List Int) (A : Option Addr) (c : Nat) (F : List Int) (w : World) (h : RSet w b bi L) (hF : Rd w .i64 A F) (ho : 0 < F.length → Off A (· = bi)) :
    Calls Try.prog 61 #[.pointer (some ⟨b, 0, none⟩), .slice A F.length c] w (PutPost w b bi L 0 F) := by
  go_enter Try.func61, Try.ntmps61
  go_wp2_with fail
  refine (put_any b bi L 0 A c F _ h hF ho).mono ?_
  rintro e w1 ⟨rfl, hR, hC⟩
  go_wp2_with fail
  go_end0
  exact ⟨rfl, hR, hC⟩
end Go.Proofs.Ytimdojkhdneecaa.Runs
