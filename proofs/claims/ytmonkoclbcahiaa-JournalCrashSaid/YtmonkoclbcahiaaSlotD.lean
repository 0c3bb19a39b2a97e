/- A slot: Load on a disk where nothing fails. -/
import Derived.Test.YtmonkoclbcahiaaSlotC
import Derived.OwnWalk
namespace Go.Proofs.Ytmonkoclbcahiaa.Slot
open Go.RowKit Go.Proofs.Ytmonkoclbcahiaa.Hp Go.Proofs.Ytmonkoclbcahiaa.By Go.Proofs.Ytmonkoclbcahiaa.Disk Go.Proofs.Ytmonkoclbcahiaa.Word Go.Proofs.Ytmonkoclbcahiaa.WordP Go.Proofs.Ytmonkoclbcahiaa.Log
set_option linter.unusedVariables false
set_option linter.unusedSimpArgs false
/-- the later one of those that are whole -/
def pick1 (p : Int × List Int) (o : Option (Int × List Int)) : Int × List Int := match o with | none => p | some q => if p.1 ≤ q.1 then q else p
def loadOf (f : Nat → List Int) : Int × List Int := pick1 (pick1 (0, []) (oneOf f 0)) (oneOf f 1)
def LoadPost (w0 w : World) (d : Nat) (ρ : Nat → Nat) (s : DSt) (f : Nat → List Int) (e : Ending) (w' : World) : Prop :=
  ∃ v, e = .returned (.tuple #[.int .u32 (loadOf f).1, v, .int .i64 0]) ∧ Chg (Own ρ) w w' ∧ DL w0 w' d ρ s ∧ OwnB w.heap.size w' v (loadOf f).2 ∧ 0 ≤ (loadOf f).1 ∧ (loadOf f).1 < 4294967296
def part (f : Nat → List Int) : Nat → Int × List Int
  | 0 => (0, [])
  | k + 1 => pick1 (part f k) (oneOf f k)
def LdR (w0 w : World) (d : Nat) (ρ : Nat → Nat) (s : DSt) (f : Nat → List Int) (g v i : Value) (wr : World) : Prop :=
  ∃ k : Nat, k ≤ 2 ∧ i = .int .u32 k ∧ g = .int .u32 (part f k).1 ∧ 0 ≤ (part f k).1 ∧ (part f k).1 < 4294967296 ∧ OwnB w.heap.size wr v (part f k).2 ∧ Chg (Own ρ) w wr ∧ DL w0 wr d ρ s
theorem OwnB.base {base base' : Nat} {w : World} {v : Value} {b : List Int} (h : OwnB base' w v b) (hb : base ≤ base') : OwnB base w v b := by
  obtain ⟨A, c, e, h0, h1, h2, h3, h4⟩ := h
  exact ⟨A, c, e, h0, h1, fun ad e x => h2 ad e (by show ad.block < base'; have : ad.block < base := x; omega), h3, h4⟩
theorem own_empty (base : Nat) (w : World) : OwnB base w (.slice none 0 0) [] := ⟨none, 0, rfl, Nat.le_refl _, ⟨by decide, fun hp => absurd hp (by decide)⟩, fun ad e => (by cases e), (fun x hx => (by cases hx)), fun ad e => (by cases e)⟩
theorem load_nil (w : World) : Calls Try.prog 16 #[.pointer none] w fun e w' => e = .returned (.tuple #[.int .u32 0, .slice none 0 0, .int .i64 1]) ∧ w = w' := by
  go_enter Try.func16, Try.ntmps16
  go_wp2_with fail
  go_ret3
  exact ⟨rfl, rfl⟩
set_option maxRecDepth 100000 in
set_option maxHeartbeats 1000000 in
theorem load_any {w0 w : World} {d : Nat} {ρ : Nat → Nat} {s : DSt} {f : Nat → List Int} (h : DL w0 w d ρ s) (hs : Says s f) :
    Calls Try.prog 16 #[.pointer (some ⟨d, 0, none⟩)] w (LoadPost w0 w d ρ s f) := by
  have hB : LdR w0 w d ρ s f (.int .u32 0) (.slice none 0 0) (.int .u32 0) w := ⟨0, by omega, rfl, rfl, by show (0 : Int) ≤ 0; omega, by show (0 : Int) < 4294967296; omega, own_empty _ _, Chg.refl _ _, h⟩
  have hρ := own_lt_size h
  have hsz := h.ch.size
  have RD := Lib.hid (And.intro hs hρ)
  clear hs hρ h
  go_enter Try.func16, Try.ntmps16
  go_wp2_with fail
  go_loopw [2, 3, 12] (fun g v i wr => LdR w0 w d ρ s f g v i wr) (fun g v i wr => (2 - intOf i).toNat)
  case atStart => exact hB
  case round =>
    clear hB
    obtain ⟨k, hk, rfl, rfl, g0, g1, hv, hC, hD⟩ := hrel
    by_cases hlt : k < 2
    · have ho := one_any k hlt hD RD.out.1
      have H := Lib.hid (And.intro hv hC)
      have hpt : part f (k + 1) = pick1 (part f k) (oneOf f k) := rfl
      have HP := Lib.hid hpt
      obtain ⟨g1', hg1⟩ : ∃ x, x = (part f k).1 := ⟨_, rfl⟩
      have HG := Lib.hid hg1
      rw [← hg1] at g0 g1 ⊢
      clear hv hC hD hpt hg1
      go_wp2_with fail
      refine ho.mono ?_
      rintro e w2 ⟨g, v2, ok, rfl, hC2, hD2, q0, q1, hcase⟩
      have hv2 := H.out.1.chg hC2 RD.out.2
      have hCC := H.out.2.trans hC2 (fun _ _ x => x)
      rcases hcase with ⟨hn, rfl⟩ | ⟨b, hn, rfl, hb⟩
      · have fin : LdR w0 w d ρ s f (.int .u32 g1') u3 (.int .u32 ((k : Int) + 1)) w2 := ⟨k + 1, by omega, by push_cast; rfl, by rw [HP.out, hn, HG.out]; rfl, by rw [HP.out, hn]; show 0 ≤ (part f k).1; rw [← HG.out]; exact g0, by rw [HP.out, hn]; show (part f k).1 < _; rw [← HG.out]; exact g1, by rw [HP.out, hn]; exact hv2, hCC, hD2⟩
        clear ho H HP HG hv2 hCC hD2 hn hC2
        go_wp2_with fail
        exact ⟨fin, by simp [intOf]; omega⟩
      · by_cases hge : g1' ≤ g
        · have fin : LdR w0 w d ρ s f (.int .u32 g) v2 (.int .u32 ((k : Int) + 1)) w2 := by
            have e : part f (k + 1) = (g, b) := by rw [HP.out, hn]; show (if (part f k).1 ≤ g then _ else _) = _; rw [← HG.out, if_pos hge]
            exact ⟨k + 1, by omega, by push_cast; rfl, by rw [e], by rw [e]; exact q0, by rw [e]; exact q1, by rw [e]; exact hb.base (by have := H.out.2.size; omega), hCC, hD2⟩
          clear ho H HP HG hv2 hCC hD2 hn hC2 hb
          go_wp2_with fail
          exact ⟨fin, by simp [intOf]; omega⟩
        · have fin : LdR w0 w d ρ s f (.int .u32 g1') u3 (.int .u32 ((k : Int) + 1)) w2 := by
            have e : part f (k + 1) = part f k := by rw [HP.out, hn]; show (if (part f k).1 ≤ g then _ else _) = _; rw [← HG.out, if_neg hge]
            exact ⟨k + 1, by omega, by push_cast; rfl, by rw [e, HG.out], by rw [e, ← HG.out]; exact g0, by rw [e, ← HG.out]; exact g1, by rw [e]; exact hv2, hCC, hD2⟩
          clear ho H HP HG hv2 hCC hD2 hn hC2 hb
          go_wp2_with fail
          exact ⟨fin, by simp [intOf]; omega⟩
    · obtain rfl : k = 2 := by omega
      have fin : ∀ v, OwnB w.heap.size wr v (part f 2).2 → LoadPost w0 w d ρ s f (.returned (.tuple #[.int .u32 (part f 2).1, v, .int .i64 0])) wr := fun v hv => ⟨v, rfl, hC, hD, hv, g0, g1⟩
      have F := fin _ hv
      clear fin hv hC hD
      generalize (part f 2).1 = G at *
      go_wp2_with fail
      go_ret3
      exact F
end Go.Proofs.Ytmonkoclbcahiaa.Slot
