/- Chapter 25: answers. -/
import Derived.Test.YtmjnbbdlnplmjaaDoorScrH
import Derived.Lib.SlBytesConst
namespace Go.Proofs.YtmjnbbdlnplmjaaDoor.Scr
open Go.RowKit
open Hp (Chg Blk NoB blt Rd)
set_option linter.unusedVariables false
set_option linter.unusedSimpArgs false
def s0 : St := ⟨2, 1, 0, 0, 0, 0, false, 0, 0, 0, [97]⟩
abbrev t0 : List UInt8 := [50, 32, 49, 32, 48, 32, 48, 32, 48, 32, 48, 32, 48, 32, 48, 32, 48, 32, 48, 32, 120, 54, 49, 10]
theorem itoa0 : Lib.itoa 0 = [48] ∧ Lib.itoa 1 = [49] ∧ Lib.itoa 2 = [50] :=
  ⟨(Lib.itoa_nonneg 0).trans ((Lib.decDigits_one (by decide)).trans (by decide)), (Lib.itoa_nonneg 1).trans ((Lib.decDigits_one (by decide)).trans (by decide)), (Lib.itoa_nonneg 2).trans ((Lib.decDigits_one (by decide)).trans (by decide))⟩
theorem text0 : textL [s0] = t0 := by
  obtain ⟨i0, i1, i2⟩ := itoa0
  show lineL s0 ++ [] = t0
  unfold lineL numT St.nums St.wn s0
  simp [i0, i1, i2]
  decide
/-- a new slice of one step -/
theorem one_in {w : World} {g : Nat} {s : St} {A : Option Addr} {c : Nat} {T : Nat} (hb : Blk w g (s.cells (.slice A s.data.length c)) T) (hR : Rd w .u8 A s.data) : SIn w (some ⟨g, 0, none⟩) [s] := by
  intro i s' hs
  have : i = 0 := by
    have := (List.getElem?_eq_some_iff.1 hs).1
    simp at this; omega
  subst this
  obtain rfl : s = s' := by simpa using hs
  refine ⟨_, rfl, A, c, fun j v hv => ?_, hR⟩
  rw [Nat.zero_mul, Nat.zero_add, Hp.add_lit' g 0 j, Nat.zero_add, Hp.bcell hb j]
  exact hv
theorem ok0 : s0.ok := by intro z hz; simp [s0] at hz; subst hz; decide
theorem fit0 : ∀ n, n ∈ s0.nums → fitP n := by decide
theorem one_const (w1 : World) (b : Int) : Rd (w1.alloc (.cells #[.int .u8 b] 5 (1, 2))) .u8 (some ⟨w1.heap.size, 0, none⟩) [b] := ⟨by simp, fun _ => ⟨_, rfl, fun j hj => by
  have : j = 0 := by simp at hj; omega
  subst this
  have e : (⟨w1.heap.size, 0, none⟩ : Addr).add 0 = ⟨w1.heap.size, 0, none⟩ := rfl
  rw [e]
  exact (World.cell?_alloc_mark w1 #[.int .u8 b] 5 (1, 2) 0).trans rfl⟩⟩
theorem print_good (l : List St) (A : Option Addr) (cap : Nat) (w : World) (hG : Glo w) (hA : SIn w A l) (hok : ∀ s, s ∈ l → s.ok) (hd : ∀ s, s ∈ l → s.data.length ≤ 100000) (hB : (textL l).length ≤ 900000) (hn : l.length ≤ 100000) (hf : ∀ s, s ∈ l → ∀ n, n ∈ s.nums → fitP n) :
    Calls Tryd.prog 7 #[.slice A l.length cap] w fun e w' => e = .returned (.tuple #[.string (ba (textL l)), .int .i64 0]) ∧ Chg NoB w w' :=
  (print_any l A cap w hG hA hok hd hB hn).mono fun e w' h => by
    have hf' : allFit l = true := List.all_eq_true.2 fun s hs => List.all_eq_true.2 fun n hn => decide_eq_true (hf s hs n hn)
    obtain ⟨h1, h2⟩ := h
    rw [hf'] at h1
    exact ⟨h1, h2⟩
set_option maxRecDepth 100000 in
theorem answers_any (w : World) (hG : Glo w) : Calls Tryd.prog 6 #[] w fun e w' => e = .returned (.bool true) ∧ Chg NoB w w' := by
  go_enter Tryd.func6, Tryd.ntmps6
  have hc0 := Lib.run_convert_bytes_const (P := Tryd.prog) w 32 5 #[.int .u8 97] 1 1 Tryd.underlying32 Tryd.underlying5
  have hl0 : (textL [s0]).length ≤ 900000 := by rw [text0]; decide
  have hin : SIn ((w.alloc (.cells #[.int .u8 97] 5 (1, 2))).alloc (.cells (s0.cells (.slice (some ⟨w.heap.size, 0, none⟩) 1 1)) 37)) (some ⟨w.heap.size + 1, 0, none⟩) [s0] :=
    one_in (s := s0) (A := some ⟨w.heap.size, 0, none⟩) (c := 1) (Hp.bnew' (by simp) _) ((one_const w 97).chg ((Chg.refl NoB _).alloc _) (fun _ _ _ x => x))
  have hCa : Chg NoB w ((w.alloc (.cells #[.int .u8 97] 5 (1, 2))).alloc (.cells (s0.cells (.slice (some ⟨w.heap.size, 0, none⟩) 1 1)) 37)) := ((Chg.refl NoB w).alloc _).alloc _
  have ok1 : ∀ s, s ∈ [s0] → s.ok := fun s hs => by rw [List.mem_singleton.1 hs]; exact ok0
  have d1 : ∀ s, s ∈ [s0] → s.data.length ≤ 100000 := fun s hs => by rw [List.mem_singleton.1 hs]; decide
  have f1 : ∀ s, s ∈ [s0] → ∀ n, n ∈ s.nums → fitP n := fun s hs => by rw [List.mem_singleton.1 hs]; exact fit0
  have hp := print_good [s0] (some ⟨w.heap.size + 1, 0, none⟩) 1 _ (hG.nob hCa) hin ok1 d1 hl0 (by decide) f1
  rw [text0] at hp
  go_wp2_with fail
  refine hp.mono ?_
  rintro e w1 ⟨rfl, hc1⟩
  have hGb := (hG.nob hCa).nob hc1
  have hps := parse_any [s0] ok1 f1 d1 hl0 (by decide) w1 hGb
  rw [text0] at hps
  go_wp2_with fail
  refine hps.mono ?_
  rintro e w2 ⟨hc2, A, c, rfl, hS⟩
  obtain ⟨ad, rfl, hst⟩ := hS 0 s0 rfl
  obtain ⟨B1, d2, hcells, hRd⟩ := hst
  obtain ⟨x0, x1, x2, x3, x4, x5, x6, x7, x8, x9, x10⟩ := step_cells hcells
  have hC : Chg NoB w w2 := (hCa.trans hc1 (fun _ _ h => h)).trans hc2 (fun _ _ h => h)
  have x1' : w2.cell? ⟨ad.block, ad.off + 1, none⟩ = some (.int .i64 1) := x1
  clear hps hp hcells hRd hS hin
  go_wp2_with fail
  go_ret
  exact ⟨rfl, hC⟩
end Go.Proofs.YtmjnbbdlnplmjaaDoor.Scr
