/- Memory of frames: what its methods do (third part). -/
import Derived.Test.YtimdojkhdneecaaRamB
namespace Go.Proofs.Ytimdojkhdneecaa.Ram
open Go.RowKit Go.Proofs.Ytimdojkhdneecaa.Hp
set_option linter.unusedVariables false
set_option linter.unusedSimpArgs false
def rdL (B : Nat → Nat → Int) (f a m : Nat) : List Int := (List.range m).map fun j => B f (a + j)
theorem rdL_len (B : Nat → Nat → Int) (f a m : Nat) : (rdL B f a m).length = m := by simp [rdL]
theorem RRam.rd {w : World} {p bl n : Nat} {B : Nat → Nat → Int} {D : Nat → Bool} (h : RRam w p bl n B D) (f a m : Nat) (hf : f < n) (hm : a + m ≤ 64) : Rd w .u8 (some ⟨bl, adr f a m, none⟩) (rdL B f a m) := by
  refine ⟨by rw [rdL_len]; omega, fun hp => ⟨_, rfl, fun j hj => ?_⟩⟩
  rw [rdL_len] at hp hj
  have hb := h.byte f (a + j) hf (by omega)
  have e : (⟨bl, adr f a m, none⟩ : Addr).add j = ⟨bl, f * 65 + (a + j), none⟩ := by
    unfold adr; rw [if_neg (by omega)]
    unfold Addr.add; split
    · subst_vars; simp
    · simp; omega
  rw [e, hb]
  simp [rdL, hj]
def ReadPost (l : List Int) (w : World) (e : Ending) (w' : World) : Prop :=
  ∃ v, e = .returned (.tuple #[v, .int .i64 0]) ∧ w'.ownsRow w.heap.size 5 1 v l.length (l.map (Value.int .u8)) ∧ Chg NoB w w'
theorem read_ok (p bl n : Nat) (B : Nat → Nat → Int) (D : Nat → Bool) (f a m : Nat) (w : World) (h : RRam w p bl n B D) (hf : f < n) (hm : a + m ≤ 64) (hd : D f = false) :
    Calls Try.prog 50 #[.pointer (some ⟨p, 0, none⟩), .int .i64 f, .int .i64 a, .int .i64 m] w (ReadPost (rdL B f a m) w) := by
  have hr := h.rd f a m hf hm
  have hl := rdL_len B f a m
  go_enter Try.func50, Try.ntmps50
  go_wp2_with fail
  refine (at_ok p bl n B D f a m _ h hf hm hd).mono ?_
  rintro e w1 ⟨rfl, rfl⟩
  go_wp2_with fail
  have hc := clone_some _ _ m w hr
  rw [hl] at hc
  refine hc.mono ?_
  rintro e w2 ⟨v, rfl, hown, hC⟩
  go_wp2_with fail
  go_ret2
  exact ⟨v, rfl, hown, hC⟩
theorem read_bad (p bl n : Nat) (B : Nat → Nat → Int) (D : Nat → Bool) (f a m : Int) (w : World) (h : RRam w p bl n B D) (hb : Bad n f a m) :
    Calls Try.prog 50 #[.pointer (some ⟨p, 0, none⟩), .int .i64 f, .int .i64 a, .int .i64 m] w fun e w' => e = .returned (.tuple #[.slice none 0 0, .int .i64 1]) ∧ w = w' := by
  go_enter Try.func50, Try.ntmps50
  go_wp2_with fail
  refine (at_bad p bl n B D f a m _ h hb).mono ?_
  rintro e w1 ⟨rfl, rfl⟩
  go_wp2_with fail
  refine (clone_nil _).mono ?_
  rintro e w2 ⟨rfl, rfl⟩
  go_wp2_with fail
  go_ret2
  exact ⟨rfl, rfl⟩
theorem read_lost (p bl n : Nat) (B : Nat → Nat → Int) (D : Nat → Bool) (f a m : Nat) (w : World) (h : RRam w p bl n B D) (hf : f < n) (hm : a + m ≤ 64) (hd : D f = true) :
    Calls Try.prog 50 #[.pointer (some ⟨p, 0, none⟩), .int .i64 f, .int .i64 a, .int .i64 m] w fun e w' => e = .returned (.tuple #[.slice none 0 0, .int .i64 7]) ∧ w = w' := by
  go_enter Try.func50, Try.ntmps50
  go_wp2_with fail
  refine (at_lost p bl n B D f a m _ h hf hm hd).mono ?_
  rintro e w1 ⟨rfl, rfl⟩
  go_wp2_with fail
  refine (clone_nil _).mono ?_
  rintro e w2 ⟨rfl, rfl⟩
  go_wp2_with fail
  go_ret2
  exact ⟨rfl, rfl⟩
theorem read_nil (f a m : Int) (w : World) :
    Calls Try.prog 50 #[.pointer none, .int .i64 f, .int .i64 a, .int .i64 m] w fun e w' => e = .returned (.tuple #[.slice none 0 0, .int .i64 1]) ∧ w = w' := by
  go_enter Try.func50, Try.ntmps50
  go_wp2_with fail
  refine (at_nil f a m _).mono ?_
  rintro e w1 ⟨rfl, rfl⟩
  go_wp2_with fail
  refine (clone_nil _).mono ?_
  rintro e w2 ⟨rfl, rfl⟩
  go_wp2_with fail
  go_ret2
  exact ⟨rfl, rfl⟩
theorem write_nil (f a : Int) (A : Option Addr) (L c : Nat) (w : World) :
    Calls Try.prog 53 #[.pointer none, .int .i64 f, .int .i64 a, .slice A L c] w fun e w' => e = .returned (.int .i64 1) ∧ w = w' := by
  go_enter Try.func53, Try.ntmps53
  go_wp2_with fail
  refine (at_nil f a L _).mono ?_
  rintro e w1 ⟨rfl, rfl⟩
  go_wp2_with (with_reducible refine copy_nil rfl (.tmp 20) (.tmp 21) 98 98 rfl 5 Try.underlying98 sz8 A L c rfl rfl ?_)
  go_ret
  exact ⟨rfl, rfl⟩
theorem zero_nil (f : Int) (w : World) : Calls Try.prog 48 #[.pointer none, .int .i64 f] w fun e w' => e = .returned (.int .i64 1) ∧ w = w' := by
  have hclr : ∀ (ty : TypeId) (w : World), (Builtin.clear_ #[98] ty #[.slice none 0 0]).run Try.prog w = .ok (.tuple #[]) w := fun ty w => by simp [Builtin.clear_, run_underlying Try.underlying98]
  go_enter Try.func48, Try.ntmps48
  go_wp2_with fail
  refine (at_nil f 0 64 _).mono ?_
  rintro e w1 ⟨rfl, rfl⟩
  go_wp2_with fail
  go_ret
  exact ⟨rfl, rfl⟩
theorem zero_no (p bl n : Nat) (B : Nat → Nat → Int) (D : Nat → Bool) (f : Int) (w : World) (h : RRam w p bl n B D) (E : Int) (hE : E = atE n D f 0 64) (h0 : E ≠ 0) :
    Calls Try.prog 48 #[.pointer (some ⟨p, 0, none⟩), .int .i64 f] w fun e w' => e = .returned (.int .i64 E) ∧ w = w' := by
  have hclr : ∀ (ty : TypeId) (w : World), (Builtin.clear_ #[98] ty #[.slice none 0 0]).run Try.prog w = .ok (.tuple #[]) w := fun ty w => by simp [Builtin.clear_, run_underlying Try.underlying98]
  have key : Calls Try.prog 63 #[.pointer (some ⟨p, 0, none⟩), .int .i64 f, .int .i64 0, .int .i64 64] w fun e w' => e = .returned (.tuple #[.slice none 0 0, .int .i64 E]) ∧ w = w' := by
    unfold atE at hE
    by_cases hb : Bad n f 0 64
    · rw [if_pos hb] at hE; subst hE
      exact at_bad p bl n B D f 0 64 w h hb
    · rw [if_neg hb] at hE
      by_cases hd : D f.toNat = true
      · rw [if_pos hd] at hE; subst hE
        unfold Bad at hb
        have := at_lost p bl n B D f.toNat 0 64 w h (by omega) (by omega) hd
        rwa [show ((f.toNat : Nat) : Int) = f from by omega] at this
      · rw [if_neg hd] at hE; exact absurd hE h0
  clear hE h0 h
  have K := Lib.hid key
  clear key
  go_enter Try.func48, Try.ntmps48
  go_wp2_with fail
  refine (K.out).mono ?_
  rintro e w1 ⟨rfl, rfl⟩
  go_wp2_with fail
  go_ret
  exact ⟨rfl, rfl⟩
theorem zero_ok (p bl n : Nat) (B : Nat → Nat → Int) (D : Nat → Bool) (f : Nat) (w : World) (h : RRam w p bl n B D) (hf : f < n) (hd : D f = false) :
    Calls Try.prog 48 #[.pointer (some ⟨p, 0, none⟩), .int .i64 f] w (WritePost p bl n B D 0 (upd B f 0 (List.replicate 64 0)) w) := by
  obtain ⟨C, hC, hM⟩ := h.xs
  have hsz := hM.1
  obtain ⟨w2, hclr, hb, hc⟩ := run_clear_blk (P := Try.prog) w 98 5 (.int .u8 0) 1 Try.underlying98 info8 rfl rfl bl (f * 65 + 0) 64 64 (by omega) C _ hC (by rw [hsz]; omega)
  have hsp := hM.spl f 0 (List.replicate 64 0) hf (by simp)
  rw [List.map_replicate] at hsp
  have post : WritePost p bl n B D 0 (upd B f 0 (List.replicate 64 0)) w (.returned (.int .i64 0)) w2 := ⟨rfl, ⟨hc.blk h.st h.ne, ⟨_, hb, hsp⟩, h.ne, h.le⟩, hc⟩
  have hcl : ∀ ty, (Builtin.clear_ #[98] ty #[.slice (some ⟨bl, adr f 0 64, none⟩) 64 64]).run Try.prog w = .ok (.tuple #[]) w2 := by
    intro ty; have := hclr ty; unfold adr; rw [if_neg (by omega)]; exact this
  clear hclr hb hc hsp hM hC
  go_enter Try.func48, Try.ntmps48
  go_wp2_with fail
  refine (at_ok p bl n B D f 0 64 _ h hf (by omega) hd).mono ?_
  rintro e w1 ⟨rfl, rfl⟩
  go_wp2_with fail
  go_ret
  exact post
/-- which error a copy answers -/
def copyE (n : Nat) (D : Nat → Bool) (f t : Int) : Int := if Bad n f 0 64 ∨ Bad n t 0 64 then 1 else if D f.toNat = true then 7 else if D t.toNat = true then 7 else 0
def AtNo (p : Option Addr) (f : Int) (E : Int) (w : World) : Prop := Calls Try.prog 63 #[.pointer p, .int .i64 f, .int .i64 0, .int .i64 64] w fun e w' => e = .returned (.tuple #[.slice none 0 0, .int .i64 E]) ∧ w = w'
/-- at a frame's all: an error, or its bytes -/
theorem at_any (p bl n : Nat) (B : Nat → Nat → Int) (D : Nat → Bool) (f : Int) (w : World) (h : RRam w p bl n B D) :
    ∃ s, Calls Try.prog 63 #[.pointer (some ⟨p, 0, none⟩), .int .i64 f, .int .i64 0, .int .i64 64] w (fun e w' => e = .returned (.tuple #[s, .int .i64 (atE n D f 0 64)]) ∧ w = w') ∧
      ((atE n D f 0 64 = 0 ∧ ∃ k : Nat, f = (k : Int) ∧ k < n ∧ D k = false ∧ s = .slice (some ⟨bl, adr k 0 64, none⟩) 64 64) ∨ (atE n D f 0 64 ≠ 0 ∧ s = .slice none 0 0)) := by
  unfold atE
  by_cases hb : Bad n f 0 64
  · rw [if_pos hb]
    exact ⟨_, at_bad p bl n B D f 0 64 w h hb, .inr ⟨by omega, rfl⟩⟩
  · rw [if_neg hb]
    unfold Bad at hb
    obtain ⟨k, rfl⟩ := Int.eq_ofNat_of_zero_le (show 0 ≤ f by omega)
    rw [Int.toNat_natCast]
    by_cases hd : D k = true
    · rw [if_pos hd]
      exact ⟨_, at_lost p bl n B D k 0 64 w h (by omega) (by omega) hd, .inr ⟨by omega, rfl⟩⟩
    · rw [if_neg hd]
      have hd' : D k = false := by simpa using hd
      exact ⟨_, at_ok p bl n B D k 0 64 w h (by omega) (by omega) hd', .inl ⟨rfl, k, rfl, by omega, hd', rfl⟩⟩
theorem copyE_eq (n : Nat) (D : Nat → Bool) (f t : Int) : copyE n D f t = if atE n D f 0 64 = 1 ∨ atE n D t 0 64 = 1 then 1 else if atE n D f 0 64 ≠ 0 then atE n D f 0 64 else atE n D t 0 64 := by
  unfold copyE atE
  by_cases h1 : Bad n f 0 64
  · simp [h1]
  · by_cases h2 : Bad n t 0 64
    · simp [h1, h2]
    · by_cases h3 : D f.toNat = true
      · by_cases h4 : D t.toNat = true <;> simp [h1, h2, h3, h4]
      · by_cases h4 : D t.toNat = true <;> simp [h1, h2, h3, h4]
def CopyB (n : Nat) (B : Nat → Nat → Int) (D : Nat → Bool) (f t : Int) : Nat → Nat → Int := if copyE n D f t = 0 then upd B t.toNat 0 (rdL B f.toNat 0 64) else B
def setD (D : Nat → Bool) (f : Nat) : Nat → Bool := fun g => if g = f then true else D g
theorem IsMem.poison {C : Array Value} {n : Nat} {B : Nat → Nat → Int} {D : Nat → Bool} (h : IsMem C n B D) (f : Nat) (hf : f < n) : IsMem (C.setIfInBounds (f * 65 + 64) (.bool true)) n B (setD D f) := by
  obtain ⟨h1, h2, h3⟩ := h
  refine ⟨by simpa using h1, fun g hg j hj => ?_, fun g hg => ?_⟩
  · rw [Array.getElem?_setIfInBounds_ne (by omega)]; exact h2 g hg j hj
  · by_cases c : g = f
    · subst c
      rw [Array.getElem?_setIfInBounds_self_of_lt (by omega)]
      simp [setD]
    · rw [Array.getElem?_setIfInBounds_ne (by omega), h3 g hg]
      simp [setD, c]
theorem RRam.poison {w : World} {p bl n : Nat} {B : Nat → Nat → Int} {D : Nat → Bool} (h : RRam w p bl n B D) (f : Nat) (hf : f < n) : RRam (w.setCell ⟨bl, f * 65 + 64, none⟩ (.bool true)) p bl n B (setD D f) := by
  obtain ⟨C, hC, hM⟩ := h.xs
  exact ⟨bfar h.st h.ne _, ⟨_, bset hC _ _, hM.poison f hf⟩, h.ne, h.le⟩
def PoisonPost (p bl n : Nat) (B : Nat → Nat → Int) (D : Nat → Bool) (r : Bool) (D' : Nat → Bool) (w : World) (e : Ending) (w' : World) : Prop :=
  e = .returned (.bool r) ∧ RRam w' p bl n B D' ∧ Chg (· = bl) w w'
def isBad (n : Nat) (D : Nat → Bool) (f : Int) : Bool := decide (0 ≤ f) && (decide (f < (n : Int)) && D f.toNat)
theorem poison_yes (p bl n : Nat) (B : Nat → Nat → Int) (D : Nat → Bool) (f : Nat) (w : World) (h : RRam w p bl n B D) (hf : f < n) (hd : D f = false) :
    Calls Try.prog 21 #[.pointer (some ⟨p, 0, none⟩), .int .i64 f] w (PoisonPost p bl n B D true (setD D f) w) := by
  have hle := h.le
  have hs := h.c0
  have hl := h.lost f hf
  rw [hd] at hl
  obtain ⟨C, hC, hM⟩ := h.xs
  have hfr := fun i => bfroz hC i
  have post : PoisonPost p bl n B D true (setD D f) w (.returned (.bool true)) (w.setCell ⟨bl, f * 65 + 64, none⟩ (.bool true)) := ⟨rfl, h.poison f hf, Chg.set (S := (· = bl)) (Chg.refl _ _) (p := ⟨bl, f * 65 + 64, none⟩) (.inl rfl) _⟩
  clear hd hC hM
  go_enter Try.func21, Try.ntmps21
  go_wp2_with (go_at_call 43; refine (frames_any p bl n B D _ h).mono ?_; rintro e w1 ⟨rfl, rfl⟩)
  go_ret
  exact post
theorem poison_no (p bl n : Nat) (B : Nat → Nat → Int) (D : Nat → Bool) (f : Int) (w : World) (h : RRam w p bl n B D) (hb : f < 0 ∨ n ≤ f ∨ D f.toNat = true) :
    Calls Try.prog 21 #[.pointer (some ⟨p, 0, none⟩), .int .i64 f] w fun e w' => e = .returned (.bool false) ∧ w = w' := by
  have hle := h.le
  by_cases c1 : f < 0
  · clear hb
    go_enter Try.func21, Try.ntmps21
    go_wp2
    go_ret
    exact ⟨rfl, rfl⟩
  by_cases c2 : (n : Int) ≤ f
  · clear hb
    go_enter Try.func21, Try.ntmps21
    go_wp2_with (go_at_call 43; refine (frames_any p bl n B D _ h).mono ?_; rintro e w1 ⟨rfl, rfl⟩)
    go_ret
    exact ⟨rfl, rfl⟩
  obtain ⟨k, rfl⟩ := Int.eq_ofNat_of_zero_le (show 0 ≤ f by omega)
  have hd : D k = true := by
    rcases hb with x | x | x
    · omega
    · omega
    · simpa using x
  have hs := h.c0
  have hl := h.lost k (by omega)
  rw [hd] at hl
  clear hd hb
  go_enter Try.func21, Try.ntmps21
  go_wp2_with (go_at_call 43; refine (frames_any p bl n B D _ h).mono ?_; rintro e w1 ⟨rfl, rfl⟩)
  go_ret
  exact ⟨rfl, rfl⟩
theorem poison_nil (f : Int) (w : World) : Calls Try.prog 21 #[.pointer none, .int .i64 f] w fun e w' => e = .returned (.bool false) ∧ w = w' := by
  by_cases c1 : f < 0
  · go_enter Try.func21, Try.ntmps21
    go_wp2
    go_ret
    exact ⟨rfl, rfl⟩
  · go_enter Try.func21, Try.ntmps21
    go_wp2_with (go_at_call 43; refine (frames_nil _).mono ?_; rintro e w1 ⟨rfl, rfl⟩)
    go_ret
    exact ⟨rfl, rfl⟩
end Go.Proofs.Ytimdojkhdneecaa.Ram
