/- Chapter 5: answers; a disk where the first work fails. -/
import Derived.Test.YtmonkoclbcahiaaSlotE
import Derived.Lib.SlBytesConst
namespace Go.Proofs.Ytmonkoclbcahiaa.Slot
open Go.RowKit Go.Proofs.Ytmonkoclbcahiaa.Hp Go.Proofs.Ytmonkoclbcahiaa.By Go.Proofs.Ytmonkoclbcahiaa.Disk Go.Proofs.Ytmonkoclbcahiaa.Word Go.Proofs.Ytmonkoclbcahiaa.WordP Go.Proofs.Ytmonkoclbcahiaa.Log
set_option linter.unusedVariables false
set_option linter.unusedSimpArgs false
/-- a Save on a disk where nothing fails -/
theorem save_says {w0 w : World} {d : Nat} {ρ0 : Nat → Nat} {s : DSt} {f : Nat → List Int} (gen : Int) (A : Option Addr) (c : Nat) (l : List Int) (h : DL w0 w d ρ0 s) (hs : Says s f) (g0 : 0 ≤ gen) (g1 : gen < 4294967296) (hl : l.length ≤ 960) (hr : Rd w .u8 A l) (hlt : 0 < l.length → Off A (Own ρ0)) (hcap : l.length ≤ c) (hb : Bytes l) :
    Calls Try.prog 14 #[.pointer (some ⟨d, 0, none⟩), .int .u32 gen, .slice A l.length c] w fun e w' => e = .returned (.int .i64 0) ∧ ∃ s', Says s' (savedF f gen l) ∧ s'.looseL = [] ∧ Stp w0 w d ρ0 w' s' := by
  refine (save_any gen A c l h g0 g1 hl hr hlt hcap hb).mono ?_
  rintro e w' ⟨E, s', rfl, hS, hst⟩
  obtain ⟨rfl, h2, h3⟩ := save_calm hs hl hS
  exact ⟨rfl, s', h2, h3, hst⟩
set_option maxRecDepth 100000 in
set_option maxHeartbeats 2000000 in
theorem answers5 (w0 : World) : Calls Try.prog 12 #[] w0 (True1 w0) := by
  go_enter Try.func12, Try.ntmps12
  go_wp2_with fail
  refine (l_new 192 (by omega) (by omega) w0).mono ?_
  rintro e w1 ⟨d, ρ, rfl, h⟩
  have hc0 := Lib.run_convert_bytes_const (P := Try.prog) w1 31 5 #[.int .u8 120] 1 1 Try.underlying31 Try.underlying5
  have hrd : Rd (w1.alloc (.cells #[.int .u8 120] 5 (1, 2))) .u8 (some ⟨w1.heap.size, 0, none⟩) [120] := ⟨by decide, fun _ => ⟨_, rfl, fun j hj => by
    have : j = 0 := by simpa using hj
    subst this
    rw [add0]
    exact (World.cell?_alloc_mark w1 #[.int .u8 120] 5 (1, 2) 0).trans rfl⟩⟩
  have h2 := h.keep ((Chg.refl NoB w1).alloc (.cells #[.int .u8 120] 5 (1, 2)))
  have hz : ρ w1.heap.size = 0 := by
    obtain ⟨_, _, _, _, _, _, _, hp⟩ := h.at_
    exact hp.rz _ (Nat.le_refl _)
  have ha := save_says 5 (some ⟨w1.heap.size, 0, none⟩) 1 [120] h2 says_new (by decide) (by decide) (by decide) hrd (fun _ ad e x => by
    obtain rfl := Option.some.inj e
    exact x hz) (by decide) (fun x hx => by
    rw [List.mem_singleton] at hx; subst hx; decide)
  have hld : loadOf (savedF (fun _ => List.replicate 64 0) 5 [120]) = (5, [120]) :=
    load_two 1 (by decide) (by decide) (one_saved _ 5 [120] (by decide) (by decide) (by decide) 1 (by decide)) (fun q hq => by
      rw [one_other _ 5 [120] (by decide) (1 - 1) (by decide) (by decide), one_zero _ (by decide)] at hq; cases hq)
  clear hrd h2 h hz
  simp only [List.length_cons, List.length_nil, Nat.zero_add] at ha
  have O := Lib.hid hld
  clear hld
  generalize savedF (fun _ => List.replicate 64 0) 5 [120] = f at *
  go_wp2_with fail
  refine ha.mono ?_
  rintro e w3 ⟨rfl, s', hs', _, ρ3, h3, _, _⟩
  have hrp := load_any h3 hs'
  clear ha h3 hs'
  go_wp2_with fail
  refine hrp.mono ?_
  rintro e w4 ⟨v, rfl, _, h4, hv, _, _⟩
  rw [O.out] at hv ⊢
  obtain ⟨A, c, rfl, _, hr, _, _, hfm⟩ := hv
  obtain ⟨ad, rfl, hcell⟩ := hr.at_ 0 (by decide)
  obtain ⟨g, rfl⟩ := hfm ad rfl
  have hcv : (convert 31 9 (.slice (some ⟨g, 0, none⟩) 1 c)).run Try.prog w4 = .ok (.string (strOfNums [120])) w4 := by
    refine run_convert_bytes_arg (P := Try.prog) w4 31 5 Try.underlying31 Try.underlying5 g 0 1 c [120] rfl (fun i hi => ?_) 9 Try.underlying9
    obtain rfl : i = 0 := by omega
    rw [add0] at hcell
    exact hcell
  have es : strOfNums [120] = { data := #[120] } := by decide
  rw [es] at hcv
  have fin : Chg NoB w0 w4 := h4.ch
  clear hrp h4 hr hcell es
  go_wp2_with fail
  go_ret
  exact ⟨rfl, fin⟩
end Go.Proofs.Ytmonkoclbcahiaa.Slot
