/- Memory of frames: what its methods do. -/
import Derived.Test.YtimdojkhdneecaaHpB
namespace Go.Proofs.Ytimdojkhdneecaa.Ram
open Go.RowKit Go.Proofs.Ytimdojkhdneecaa.Hp
set_option linter.unusedVariables false
set_option linter.unusedSimpArgs false
/-- The cells of n frames: each 64 bytes and whether they are lost. -/
def IsMem (C : Array Value) (n : Nat) (B : Nat → Nat → Int) (D : Nat → Bool) : Prop :=
  C.size = 65 * n ∧ (∀ f, f < n → ∀ j, j < 64 → C[f * 65 + j]? = some (.int .u8 (B f j))) ∧ ∀ f, f < n → C[f * 65 + 64]? = some (.bool (D f))
structure RRam (w : World) (p bl n : Nat) (B : Nat → Nat → Int) (D : Nat → Bool) : Prop where
  st : Blk w p #[.slice (some ⟨bl, 0, none⟩) n n] 93
  xs : ∃ C, Blk w bl C 90 ∧ IsMem C n B D
  ne : p ≠ bl
  le : n ≤ 1024
theorem RRam.chg {S : Nat → Prop} {w w' : World} {p bl n : Nat} {B : Nat → Nat → Int} {D : Nat → Bool} (h : RRam w p bl n B D) (hc : Chg S w w') (h1 : ¬ S p) (h2 : ¬ S bl) : RRam w' p bl n B D := by
  obtain ⟨C, hC, hm⟩ := h.xs
  exact ⟨hc.blk h.st h1, ⟨C, hc.blk hC h2, hm⟩, h.ne, h.le⟩
theorem RRam.c0 {w : World} {p bl n : Nat} {B : Nat → Nat → Int} {D : Nat → Bool} (h : RRam w p bl n B D) : w.cell? ⟨p, 0, none⟩ = some (.slice (some ⟨bl, 0, none⟩) n n) := by rw [bcell h.st]; rfl
theorem RRam.byte {w : World} {p bl n : Nat} {B : Nat → Nat → Int} {D : Nat → Bool} (h : RRam w p bl n B D) (f j : Nat) (hf : f < n) (hj : j < 64) : w.cell? ⟨bl, f * 65 + j, none⟩ = some (.int .u8 (B f j)) := by
  obtain ⟨C, hC, hm⟩ := h.xs
  rw [bcell hC]; exact hm.2.1 f hf j hj
theorem RRam.lost {w : World} {p bl n : Nat} {B : Nat → Nat → Int} {D : Nat → Bool} (h : RRam w p bl n B D) (f : Nat) (hf : f < n) : w.cell? ⟨bl, f * 65 + 64, none⟩ = some (.bool (D f)) := by
  obtain ⟨C, hC, hm⟩ := h.xs
  rw [bcell hC]; exact hm.2.2 f hf
def clampF (n : Int) : Nat := if n < 0 then 0 else if n > 1024 then 1024 else n.toNat
def zeroMem (n : Nat) : Array Value := madeCells (Array.replicate 64 (.int .u8 0) ++ #[.bool false]) (n * 65)
theorem zeroMem_is (n : Nat) : IsMem (zeroMem n) n (fun _ _ => 0) (fun _ => false) := by
  have hs : (Array.replicate 64 (Value.int .u8 0) ++ #[Value.bool false]).size = 65 := by simp
  refine ⟨by simp [zeroMem, madeCells]; omega, fun f hf j hj => ?_, fun f hf => ?_⟩
  · simp only [zeroMem, madeCells, Array.getElem?_map, Array.getElem?_range, hs]
    rw [if_pos (by omega)]
    simp only [Option.map_some, show (f * 65 + j) % 65 = j from by omega]
    rw [getElem!_pos _ j (by rw [hs]; omega), Array.getElem_append_left (by simpa using hj)]
    simp
  · simp only [zeroMem, madeCells, Array.getElem?_map, Array.getElem?_range, hs]
    rw [if_pos (by omega)]
    simp only [Option.map_some, show (f * 65 + 64) % 65 = 64 from by omega]
    rw [getElem!_pos _ 64 (by rw [hs]; omega), Array.getElem_append_right (by simp)]
    simp
def NewPost (n : Int) (w : World) (e : Ending) (w' : World) : Prop :=
  ∃ p bl, e = .returned (.pointer (some ⟨p, 0, none⟩)) ∧ RRam w' p bl (clampF n) (fun _ _ => 0) (fun _ => false) ∧ w.heap.size ≤ p ∧ w.heap.size ≤ bl ∧ Chg NoB w w'
theorem new_fin (w : World) (m : Nat) (hm : m ≤ 1024) (A : Array Value) (hA : IsMem A m (fun _ _ => 0) (fun _ => false)) :
    RRam ((w.alloc (.cells A 90)).alloc (.cells #[.slice (some ⟨w.heap.size, 0, none⟩) m m] 93)) (w.heap.size + 1) w.heap.size m (fun _ _ => 0) (fun _ => false) :=
  ⟨bnew' (by simp) _, ⟨A, balloc (bnew _ _) _, hA⟩, by omega, hm⟩
theorem frameInfo : ∃ i, Try.prog.info? 90 = some i ∧ i.zero = some (.agg (Array.replicate 64 (.int .u8 0) ++ #[.bool false])) ∧ i.size = 65 ∧ i.bytes = 65 := by
  have h : (Try.prog.info? 90).map (fun i => (i.zero, i.size, i.bytes)) = some (some (.agg (Array.replicate 64 (.int .u8 0) ++ #[.bool false])), 65, 65) := by kernel_rfl
  exact info_parts h
theorem new_any (n : Int) (w : World) : Calls Try.prog 24 #[.int .i64 n] w (NewPost n w) := by
  have hmk : ∀ (m : Int) (h0 : 0 ≤ m) (h1 : m ≤ 1024) (w : World), (Instr.makeSlice 91 (.int .i64 m) (.int .i64 m)).run Try.prog w = .ok (.slice (some ⟨w.heap.size, 0, none⟩) m.toNat m.toNat) (w.alloc (.cells (zeroMem m.toNat) 90)) := by
    intro m h0 h1 w
    obtain ⟨i, hi, hz, hs, hb⟩ := frameInfo
    rw [run_make w _ _ i _ Try.underlying91 hi hz .i64 .i64 m m h0 (Int.le_refl _) (by rw [hb]; omega) (by omega), hs]
    rfl
  have main : ∀ m : Int, 0 ≤ m → m ≤ 1024 → clampF n = m.toNat → (n < 0 ∧ m = 0 ∨ 1024 < n ∧ m = 1024 ∨ 0 ≤ n ∧ n ≤ 1024 ∧ n = m) → Calls Try.prog 24 #[.int .i64 n] w (NewPost n w) := by
    intro m h0 h1 hc hm
    have hk := hmk m h0 h1
    have hA := zeroMem_is m.toNat
    generalize zeroMem m.toNat = A at hk hA
    have F := new_fin w m.toNat (by omega) A hA
    generalize hM : m.toNat = M at hk F hc
    have post : NewPost n w (.returned (.pointer (some ⟨w.heap.size + 1, 0, none⟩))) ((w.alloc (.cells A 90)).alloc (.cells #[.slice (some ⟨w.heap.size, 0, none⟩) M M] 93)) :=
      ⟨_, _, rfl, by rw [hc]; exact F, by omega, by omega, ((Chg.refl _ _).alloc _).alloc _⟩
    clear hA hM hc F hmk
    rcases hm with ⟨c, rfl⟩ | ⟨c, rfl⟩ | ⟨c, d, rfl⟩
    all_goals
      go_enter Try.func24, Try.ntmps24
      go_wp2
      go_ret
      exact post
  by_cases c : n < 0
  · exact main 0 (by omega) (by omega) (by unfold clampF; rw [if_pos c]; rfl) (.inl ⟨c, rfl⟩)
  · by_cases d : n > 1024
    · exact main 1024 (by omega) (by omega) (by unfold clampF; rw [if_neg c, if_pos d]; rfl) (.inr (.inl ⟨d, rfl⟩))
    · exact main n (by omega) (by omega) (by unfold clampF; rw [if_neg c, if_neg d]) (.inr (.inr ⟨by omega, by omega, rfl⟩))
theorem frames_any (p bl n : Nat) (B : Nat → Nat → Int) (D : Nat → Bool) (w : World) (h : RRam w p bl n B D) :
    Calls Try.prog 43 #[.pointer (some ⟨p, 0, none⟩)] w fun e w' => e = .returned (.int .i64 n) ∧ w = w' := by
  have hs := h.c0
  have hle := h.le
  clear h
  go_enter Try.func43, Try.ntmps43
  go_wp2
  go_ret
  exact ⟨rfl, rfl⟩
theorem frames_nil (w : World) : Calls Try.prog 43 #[.pointer none] w fun e w' => e = .returned (.int .i64 0) ∧ w = w' := by
  go_enter Try.func43, Try.ntmps43
  go_wp2
  go_ret
  exact ⟨rfl, rfl⟩
/-- may bytes be asked for? -/
def Bad (n f a m : Int) : Prop := f < 0 ∨ n ≤ f ∨ a < 0 ∨ m < 0 ∨ 64 < a ∨ 64 - a < m
instance (n f a m : Int) : Decidable (Bad n f a m) := by unfold Bad; infer_instance
def atE (n : Nat) (D : Nat → Bool) (f a m : Int) : Int := if Bad n f a m then 1 else if D f.toNat = true then 7 else 0
def adr (f a m : Nat) : Nat := f * 65 + (if m = 0 then 0 else a)
set_option maxHeartbeats 4000000 in
theorem at_bad (p bl n : Nat) (B : Nat → Nat → Int) (D : Nat → Bool) (f a m : Int) (w : World) (h : RRam w p bl n B D) (hb : Bad n f a m) :
    Calls Try.prog 63 #[.pointer (some ⟨p, 0, none⟩), .int .i64 f, .int .i64 a, .int .i64 m] w fun e w' => e = .returned (.tuple #[.slice none 0 0, .int .i64 1]) ∧ w = w' := by
  unfold Bad at hb
  have hle := h.le
  by_cases c1 : f < 0
  · clear hb
    go_enter Try.func63, Try.ntmps63
    go_wp2
    go_ret2
    exact ⟨rfl, rfl⟩
  by_cases c2 : (n : Int) ≤ f
  · clear hb
    go_enter Try.func63, Try.ntmps63
    go_wp2_with (go_at_call 43; refine (frames_any p bl n B D _ h).mono ?_; rintro e w1 ⟨rfl, rfl⟩)
    go_ret2
    exact ⟨rfl, rfl⟩
  by_cases c3 : a < 0
  · clear hb
    go_enter Try.func63, Try.ntmps63
    go_wp2_with (go_at_call 43; refine (frames_any p bl n B D _ h).mono ?_; rintro e w1 ⟨rfl, rfl⟩)
    go_ret2
    exact ⟨rfl, rfl⟩
  by_cases c4 : m < 0
  · clear hb
    go_enter Try.func63, Try.ntmps63
    go_wp2_with (go_at_call 43; refine (frames_any p bl n B D _ h).mono ?_; rintro e w1 ⟨rfl, rfl⟩)
    go_ret2
    exact ⟨rfl, rfl⟩
  by_cases c5 : 64 < a
  · clear hb
    go_enter Try.func63, Try.ntmps63
    go_wp2_with (go_at_call 43; refine (frames_any p bl n B D _ h).mono ?_; rintro e w1 ⟨rfl, rfl⟩)
    go_ret2
    exact ⟨rfl, rfl⟩
  have c6 : 64 - a < m := by omega
  clear hb
  go_enter Try.func63, Try.ntmps63
  go_wp2_with (go_at_call 43; refine (frames_any p bl n B D _ h).mono ?_; rintro e w1 ⟨rfl, rfl⟩)
  go_ret2
  exact ⟨rfl, rfl⟩
set_option maxHeartbeats 4000000 in
theorem at_lost (p bl n : Nat) (B : Nat → Nat → Int) (D : Nat → Bool) (f a m : Nat) (w : World) (h : RRam w p bl n B D) (hf : f < n) (hm : a + m ≤ 64) (hd : D f = true) :
    Calls Try.prog 63 #[.pointer (some ⟨p, 0, none⟩), .int .i64 f, .int .i64 a, .int .i64 m] w fun e w' => e = .returned (.tuple #[.slice none 0 0, .int .i64 7]) ∧ w = w' := by
  have hle := h.le
  have hs := h.c0
  have hl := h.lost f hf
  rw [hd] at hl
  clear hd
  go_enter Try.func63, Try.ntmps63
  go_wp2_with (go_at_call 43; refine (frames_any p bl n B D _ h).mono ?_; rintro e w1 ⟨rfl, rfl⟩)
  go_ret2
  exact ⟨rfl, rfl⟩
set_option maxRecDepth 100000 in
set_option maxHeartbeats 4000000 in
theorem at_ok (p bl n : Nat) (B : Nat → Nat → Int) (D : Nat → Bool) (f a m : Nat) (w : World) (h : RRam w p bl n B D) (hf : f < n) (hm : a + m ≤ 64) (hd : D f = false) :
    Calls Try.prog 63 #[.pointer (some ⟨p, 0, none⟩), .int .i64 f, .int .i64 a, .int .i64 m] w fun e w' => e = .returned (.tuple #[.slice (some ⟨bl, adr f a m, none⟩) m m, .int .i64 0]) ∧ w = w' := by
  have hle := h.le
  have hs := h.c0
  have hl := h.lost f hf
  rw [hd] at hl
  clear hd
  have hsl : ∀ w1 : World, (Instr.sliceAt 88 (.pointer (some ⟨bl, f * 65, none⟩)) (some (.int .i64 a)) (some (.int .i64 ((a : Int) + m))) (some (.int .i64 ((a : Int) + m)))).run Try.prog w1 = .ok (.slice (some ⟨bl, adr f a m, none⟩) m m) w1 := by
    intro w1
    obtain ⟨i, hi, hz, hsz, hb⟩ := info_parts (show (Try.prog.info? 5).map (fun i => (i.zero, i.size, i.bytes)) = some (some (.int .u8 0), 1, 1) by kernel_rfl)
    rw [run_sliceAt_lhm w1 88 _ Try.underlying88 64 (by kernel_rfl) i hi hsz .i64 .i64 .i64 a _ _ (by omega) (by omega) (by omega) (by omega)]
    have e1 : ((a : Int) + m).toNat = a + m := by omega
    rw [e1, Int.toNat_natCast, Nat.add_sub_cancel_left]
    congr 2
    unfold adr
    by_cases c : m = 0
    · subst c; simp
    · rw [if_neg c, if_neg (by omega)]
      unfold Addr.add; split
      · subst_vars; simp
      · rfl
  go_enter Try.func63, Try.ntmps63
  go_wp2_with (go_at_call 43; refine (frames_any p bl n B D _ h).mono ?_; rintro e w1 ⟨rfl, rfl⟩)
  go_ret2
  exact ⟨rfl, rfl⟩
theorem at_nil (f a m : Int) (w : World) : Calls Try.prog 63 #[.pointer none, .int .i64 f, .int .i64 a, .int .i64 m] w fun e w' => e = .returned (.tuple #[.slice none 0 0, .int .i64 1]) ∧ w = w' := by
  by_cases c1 : f < 0
  · go_enter Try.func63, Try.ntmps63
    go_wp2
    go_ret2
    exact ⟨rfl, rfl⟩
  · go_enter Try.func63, Try.ntmps63
    go_wp2_with (go_at_call 43; refine (frames_nil _).mono ?_; rintro e w1 ⟨rfl, rfl⟩)
    go_ret2
    exact ⟨rfl, rfl⟩
end Go.Proofs.Ytimdojkhdneecaa.Ram
