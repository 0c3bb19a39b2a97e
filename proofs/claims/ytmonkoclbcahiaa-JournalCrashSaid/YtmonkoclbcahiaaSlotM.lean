/- The reference's Load. -/
import Derived.Test.YtmonkoclbcahiaaSlotL
namespace Go.Proofs.Ytmonkoclbcahiaa.Slot
open Go.RowKit Go.Proofs.Ytmonkoclbcahiaa.Hp Go.Proofs.Ytmonkoclbcahiaa.By Go.Proofs.Ytmonkoclbcahiaa.Disk Go.Proofs.Ytmonkoclbcahiaa.Word Go.Proofs.Ytmonkoclbcahiaa.WordP Go.Proofs.Ytmonkoclbcahiaa.Log
set_option linter.unusedVariables false
set_option linter.unusedSimpArgs false
def RLoadPost (w : World) (f : Nat → List Int) (e : Ending) (w' : World) : Prop :=
  ∃ v, e = .returned (.tuple #[.int .u32 (loadOf f).1, v]) ∧ Chg NoB w w' ∧ OwnB w.heap.size w' v (loadOf f).2 ∧ 0 ≤ (loadOf f).1 ∧ (loadOf f).1 < 4294967296
def LrR (w : World) (f : Nat → List Int) (g v i : Value) (wr : World) : Prop :=
  ∃ k : Nat, k ≤ 2 ∧ i = .int .u32 k ∧ g = .int .u32 (part f k).1 ∧ 0 ≤ (part f k).1 ∧ (part f k).1 < 4294967296 ∧ OwnB w.heap.size wr v (part f k).2 ∧ Chg NoB w wr
theorem own_empty2 (w : World) (T : TypeId) : OwnB w.heap.size (w.alloc (.cells #[] T)) (.slice (some ⟨w.heap.size, 0, none⟩) 0 0) [] :=
  ⟨_, 0, rfl, Nat.le_refl _, ⟨by decide, fun hp => absurd hp (by decide)⟩, fun ad e x => by
    obtain rfl := Option.some.inj e
    exact absurd x (Nat.lt_irrefl _), (fun x hx => by cases hx), fun ad e => ⟨_, (Option.some.inj e).symm⟩⟩
set_option maxRecDepth 100000 in
set_option maxHeartbeats 1000000 in
theorem rload_any (ad : Addr) (c : Nat) (f : Nat → List Int) (w : World) (hc : 100 ≤ c) (h : SInN w (some ad) 100 f) :
    Calls Try.prog 17 #[.slice (some ad) 100 c] w (RLoadPost w f) := by
  have hB : LrR w f (.int .u32 0) (.slice (some ⟨w.heap.size, 0, none⟩) 0 0) (.int .u32 0) (w.alloc (.cells #[] 5)) := ⟨0, by omega, rfl, rfl, by show (0 : Int) ≤ 0; omega, by show (0 : Int) < 4294967296; omega, own_empty2 w _, (Chg.refl NoB w).alloc _⟩
  have s0 : ∀ wr, Chg NoB w wr → Calls Try.prog 42 #[.slice (some (ad.add 64)) 16 (c - 64), .int .u32 0] wr (RSlotPost wr f 0) := fun wr hC =>
    rslot_any 0 (by omega) (ad.add 64) (c - 64) f wr (by omega) ((h.keep hC).cut 64 16 (by omega))
  have s1 : ∀ wr, Chg NoB w wr → Calls Try.prog 42 #[.slice (some (ad.add 80)) 16 (c - 80), .int .u32 1] wr (RSlotPost wr f 1) := fun wr hC =>
    rslot_any 1 (by omega) (ad.add 80) (c - 80) f wr (by omega) ((h.keep hC).cut 80 16 (by omega))
  have S := Lib.hid (And.intro s0 s1)
  have c64 : ¬ c = 64 := by omega
  have c80 : ¬ c = 80 := by omega
  clear h s0 s1
  go_enter Try.func17, Try.ntmps17
  go_wp2_with fail
  go_loopw [4, 5, 6] (fun g v i wr => LrR w f g v i wr) (fun g v i wr => (2 - intOf i).toNat)
  case atStart => exact hB
  case round =>
    clear hB
    obtain ⟨k, hk, rfl, rfl, g0, g1, hv, hC⟩ := hrel
    by_cases hlt : k < 2
    · have hpt : part f (k + 1) = pick1 (part f k) (oneOf f k) := rfl
      have HP := Lib.hid hpt
      obtain ⟨g1', hg1⟩ : ∃ x, x = (part f k).1 := ⟨_, rfl⟩
      have HG := Lib.hid hg1
      have H := Lib.hid (And.intro hv hC)
      rw [← hg1] at g0 g1 ⊢
      clear hv hC hpt hg1
      have hk01 : k = 0 ∨ k = 1 := by omega
      have fin0 : ∀ w2, Chg NoB wr w2 → oneOf f k = none → LrR w f (.int .u32 g1') u5 (.int .u32 ((k : Int) + 1)) w2 := fun w2 hC2 hn => ⟨k + 1, by omega, by push_cast; rfl, by rw [HP.out, hn, HG.out]; rfl, by rw [HP.out, hn]; show 0 ≤ (part f k).1; rw [← HG.out]; exact g0, by rw [HP.out, hn]; show (part f k).1 < _; rw [← HG.out]; exact g1, by rw [HP.out, hn]; exact H.out.1.chg hC2 (fun _ x => x.elim), H.out.2.trans hC2 (fun _ _ x => x)⟩
      have fin1 : ∀ w2 g b v2, Chg NoB wr w2 → oneOf f k = some (g, b) → 0 ≤ g → g < 4294967296 → OwnB wr.heap.size w2 v2 b → (g1' ≤ g → LrR w f (.int .u32 g) v2 (.int .u32 ((k : Int) + 1)) w2) ∧ (¬ g1' ≤ g → LrR w f (.int .u32 g1') u5 (.int .u32 ((k : Int) + 1)) w2) := by
        intro w2 g b v2 hC2 hn q0 q1 hb
        constructor
        · intro hge
          have e : part f (k + 1) = (g, b) := by rw [HP.out, hn]; show (if (part f k).1 ≤ g then _ else _) = _; rw [← HG.out, if_pos hge]
          exact ⟨k + 1, by omega, by push_cast; rfl, by rw [e], by rw [e]; exact q0, by rw [e]; exact q1, by rw [e]; exact hb.base (by have := H.out.2.size; omega), H.out.2.trans hC2 (fun _ _ x => x)⟩
        · intro hge
          have e : part f (k + 1) = part f k := by rw [HP.out, hn]; show (if (part f k).1 ≤ g then _ else _) = _; rw [← HG.out, if_neg hge]
          exact ⟨k + 1, by omega, by push_cast; rfl, by rw [e, HG.out], by rw [e, ← HG.out]; exact g0, by rw [e, ← HG.out]; exact g1, by rw [e]; exact H.out.1.chg hC2 (fun _ x => x.elim), H.out.2.trans hC2 (fun _ _ x => x)⟩
      have FF := Lib.hid (And.intro fin0 fin1)
      have hS := Lib.hid (And.intro (S.out.1 wr H.out.2) (S.out.2 wr H.out.2))
      clear fin0 fin1 H HP HG
      rcases hk01 with rfl | rfl
      · have ho := hS.out.1
        clear hS hlt hk
        go_wp2_with fail
        refine ho.mono ?_
        rintro e w2 ⟨g, v2, ok, rfl, hC2, q0, q1, hcase⟩
        rcases hcase with ⟨hn, rfl⟩ | ⟨b, hn, rfl, hb⟩
        · have fin := FF.out.1 w2 hC2 hn
          clear ho FF hC2 hn
          go_wp2_with fail
          exact ⟨fin, by simp [intOf]⟩
        · have fin := FF.out.2 w2 g b v2 hC2 hn q0 q1 hb
          clear ho FF hC2 hn hb
          by_cases hge : g1' ≤ g
          · have f1 := fin.1 hge
            clear fin
            go_wp2_with fail
            exact ⟨f1, by simp [intOf]⟩
          · have f1 := fin.2 (by omega)
            clear fin
            go_wp2_with fail
            exact ⟨f1, by simp [intOf]⟩
      · have ho := hS.out.2
        clear hS hlt hk
        go_wp2_with fail
        refine ho.mono ?_
        rintro e w2 ⟨g, v2, ok, rfl, hC2, q0, q1, hcase⟩
        rcases hcase with ⟨hn, rfl⟩ | ⟨b, hn, rfl, hb⟩
        · have fin := FF.out.1 w2 hC2 hn
          clear ho FF hC2 hn
          go_wp2_with fail
          exact ⟨fin, by simp [intOf]⟩
        · have fin := FF.out.2 w2 g b v2 hC2 hn q0 q1 hb
          clear ho FF hC2 hn hb
          by_cases hge : g1' ≤ g
          · have f1 := fin.1 hge
            clear fin
            go_wp2_with fail
            exact ⟨f1, by simp [intOf]⟩
          · have f1 := fin.2 (by omega)
            clear fin
            go_wp2_with fail
            exact ⟨f1, by simp [intOf]⟩
    · obtain rfl : k = 2 := by omega
      have fin : ∀ v, OwnB w.heap.size wr v (part f 2).2 → RLoadPost w f (.returned (.tuple #[.int .u32 (part f 2).1, v])) wr := fun v hv => ⟨v, rfl, hC, hv, g0, g1⟩
      have F := fin _ hv
      clear fin hv hC
      generalize (part f 2).1 = G at *
      go_wp2_with fail
      go_ret2
      exact F
end Go.Proofs.Ytmonkoclbcahiaa.Slot
