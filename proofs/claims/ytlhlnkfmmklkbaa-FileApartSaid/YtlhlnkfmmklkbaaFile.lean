/- Files: where pages and slots lie; Read, Write; what a program that does nothing does not answer. -/
import Derived.Test.YtlhlnkfmmklkbaaDiskD
namespace Go.Proofs.Ytlhlnkfmmklkbaa.File
open Go.RowKit Go.Proofs.Ytlhlnkfmmklkbaa.Hp Go.Proofs.Ytlhlnkfmmklkbaa.By Go.Proofs.Ytlhlnkfmmklkbaa.Disk
set_option linter.unusedVariables false
set_option linter.unusedSimpArgs false
def pageN (f n : Int) : Int := if (0 ≤ f ∧ f < 4) ∧ (0 ≤ n ∧ n < 16) then 96 + f * 16 + n else -1
def slotN (n : Int) : Int := if 0 ≤ n ∧ n < 32 then 160 + n else -1
theorem page_any (f n : Int) (w : World) : Calls Try.prog 38 #[.int .i64 f, .int .i64 n] w fun e w' => e = .returned (.int .i64 (pageN f n)) ∧ w = w' := by
  unfold pageN
  by_cases h1 : f < 0
  · rw [if_neg (by omega)]
    go_enter Try.func38, Try.ntmps38
    go_wp2
    go_ret
    exact ⟨rfl, rfl⟩
  by_cases h2 : 4 ≤ f
  · rw [if_neg (by omega)]
    go_enter Try.func38, Try.ntmps38
    go_wp2
    go_ret
    exact ⟨rfl, rfl⟩
  by_cases h3 : n < 0
  · rw [if_neg (by omega)]
    go_enter Try.func38, Try.ntmps38
    go_wp2
    go_ret
    exact ⟨rfl, rfl⟩
  by_cases h4 : 16 ≤ n
  · rw [if_neg (by omega)]
    go_enter Try.func38, Try.ntmps38
    go_wp2
    go_ret
    exact ⟨rfl, rfl⟩
  · rw [if_pos (by omega)]
    go_enter Try.func38, Try.ntmps38
    go_wp2
    go_ret
    exact ⟨rfl, rfl⟩
theorem slot_any (n : Int) (w : World) : Calls Try.prog 39 #[.int .i64 n] w fun e w' => e = .returned (.int .i64 (slotN n)) ∧ w = w' := by
  unfold slotN
  by_cases h3 : n < 0
  · rw [if_neg (by omega)]
    go_enter Try.func39, Try.ntmps39
    go_wp2
    go_ret
    exact ⟨rfl, rfl⟩
  by_cases h4 : 32 ≤ n
  · rw [if_neg (by omega)]
    go_enter Try.func39, Try.ntmps39
    go_wp2
    go_ret
    exact ⟨rfl, rfl⟩
  · rw [if_pos (by omega)]
    go_enter Try.func39, Try.ntmps39
    go_wp2
    go_ret
    exact ⟨rfl, rfl⟩
theorem fread_of (P : Option Addr) (f n : Int) (w : World) (Q : Ending → World → Prop) (h : Calls Try.prog 20 #[.pointer P, .int .i64 (pageN f n)] w (fun e w' => (∃ v E, e = .returned (.tuple #[v, .int .i64 E])) ∧ Q e w')) :
    Calls Try.prog 17 #[.pointer P, .int .i64 f, .int .i64 n] w Q := by
  go_enter Try.func17, Try.ntmps17
  go_wp2_with fail
  refine (page_any f n _).mono ?_
  rintro e w1 ⟨rfl, rfl⟩
  generalize pageN f n = k at *
  go_wp2_with fail
  refine h.mono ?_
  rintro e w1 ⟨⟨v, E, rfl⟩, hq⟩
  clear h
  have HQ := Lib.hid hq
  clear hq
  go_wp2_with fail
  exact HQ.out
theorem freadslot_of (P : Option Addr) (n : Int) (w : World) (Q : Ending → World → Prop) (h : Calls Try.prog 20 #[.pointer P, .int .i64 (slotN n)] w (fun e w' => (∃ v E, e = .returned (.tuple #[v, .int .i64 E])) ∧ Q e w')) :
    Calls Try.prog 19 #[.pointer P, .int .i64 n] w Q := by
  go_enter Try.func19, Try.ntmps19
  go_wp2_with fail
  refine (slot_any n _).mono ?_
  rintro e w1 ⟨rfl, rfl⟩
  generalize slotN n = k at *
  go_wp2_with fail
  refine h.mono ?_
  rintro e w1 ⟨⟨v, E, rfl⟩, hq⟩
  clear h
  have HQ := Lib.hid hq
  clear hq
  go_wp2_with fail
  exact HQ.out
theorem fwrite_of (P : Option Addr) (f n : Int) (V : Value) (w : World) (Q : Ending → World → Prop) (h : Calls Try.prog 37 #[.pointer P, .int .i64 (pageN f n), V] w (fun e w' => (∃ E, e = .returned (.int .i64 E)) ∧ Q e w')) :
    Calls Try.prog 16 #[.pointer P, .int .i64 f, .int .i64 n, V] w Q := by
  go_enter Try.func16, Try.ntmps16
  go_wp2_with fail
  refine (page_any f n _).mono ?_
  rintro e w1 ⟨rfl, rfl⟩
  generalize pageN f n = k at *
  go_wp2_with fail
  refine h.mono ?_
  rintro e w1 ⟨⟨E, rfl⟩, hq⟩
  clear h
  have HQ := Lib.hid hq
  clear hq
  go_wp2_with fail
  exact HQ.out
theorem fwriteslot_of (P : Option Addr) (n : Int) (V : Value) (w : World) (Q : Ending → World → Prop) (h : Calls Try.prog 37 #[.pointer P, .int .i64 (slotN n), V] w (fun e w' => (∃ E, e = .returned (.int .i64 E)) ∧ Q e w')) :
    Calls Try.prog 18 #[.pointer P, .int .i64 n, V] w Q := by
  go_enter Try.func18, Try.ntmps18
  go_wp2_with fail
  refine (slot_any n _).mono ?_
  rintro e w1 ⟨rfl, rfl⟩
  generalize slotN n = k at *
  go_wp2_with fail
  refine h.mono ?_
  rintro e w1 ⟨⟨E, rfl⟩, hq⟩
  clear h
  have HQ := Lib.hid hq
  clear hq
  go_wp2_with fail
  exact HQ.out
theorem fread_any (d : Nat) (ρ : Nat → Nat) (s : DSt) (f n : Int) (w : World) (h : DiskAt w d ρ s) : Calls Try.prog 17 #[.pointer (some ⟨d, 0, none⟩), .int .i64 f, .int .i64 n] w (ReadPost w d ρ s (pageN f n)) :=
  fread_of _ f n w _ ((read_any d ρ s _ w h).mono fun e w' hp => by
    obtain ⟨v, he, hr⟩ := hp
    exact ⟨⟨v, _, he⟩, v, he, hr⟩)
theorem freadslot_any (d : Nat) (ρ : Nat → Nat) (s : DSt) (n : Int) (w : World) (h : DiskAt w d ρ s) : Calls Try.prog 19 #[.pointer (some ⟨d, 0, none⟩), .int .i64 n] w (ReadPost w d ρ s (slotN n)) :=
  freadslot_of _ n w _ ((read_any d ρ s _ w h).mono fun e w' hp => by
    obtain ⟨v, he, hr⟩ := hp
    exact ⟨⟨v, _, he⟩, v, he, hr⟩)
section
variable (d : Nat) (ρ : Nat → Nat) (s : DSt) (A : Option Addr) (c : Nat) (l : List Int) (w : World) (h : DiskAt w d ρ s) (hb : ∀ x ∈ l, 0 ≤ x ∧ x ≤ 255) (hr : Rd w .u8 A l) (ho : 0 < l.length → Off A (Own ρ))
include h hb hr ho
theorem fwrite_any (f n : Int) : Calls Try.prog 16 #[.pointer (some ⟨d, 0, none⟩), .int .i64 f, .int .i64 n, .slice A l.length c] w (WritePost w d ρ s (pageN f n) l) :=
  fwrite_of _ f n _ w _ ((write_any d ρ s _ A c l w h hb hr ho).mono fun e w' hp => by
    obtain ⟨ρ', he, hq⟩ := hp
    exact ⟨⟨_, he⟩, ρ', he, hq⟩)
theorem fwriteslot_any (n : Int) : Calls Try.prog 18 #[.pointer (some ⟨d, 0, none⟩), .int .i64 n, .slice A l.length c] w (WritePost w d ρ s (slotN n) l) :=
  fwriteslot_of _ n _ w _ ((write_any d ρ s _ A c l w h hb hr ho).mono fun e w' hp => by
    obtain ⟨ρ', he, hq⟩ := hp
    exact ⟨⟨_, he⟩, ρ', he, hq⟩)
end
end Go.Proofs.Ytlhlnkfmmklkbaa.File
