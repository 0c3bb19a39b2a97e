/- Chapter 7: frames. -/
import Derived.Test.YtolojkfpokmdkaaRRRegB
namespace Go.Proofs.YtolojkfpokmdkaaRR.Reg
open Go.RowKit Go.Proofs.YtolojkfpokmdkaaRR.Hp Go.Proofs.YtolojkfpokmdkaaRR.By Go.Proofs.YtolojkfpokmdkaaRR.Disk Go.Proofs.YtolojkfpokmdkaaRR.Word Go.Proofs.YtolojkfpokmdkaaRR.WordP Go.Proofs.YtolojkfpokmdkaaRR.Log Go.Proofs.YtolojkfpokmdkaaRR.Slot Go.Proofs.YtolojkfpokmdkaaRR.Jour
set_option linter.unusedVariables false
set_option linter.unusedSimpArgs false
def natI (l : List Nat) : List Int := l.map (fun f : Nat => (f : Int))
theorem natI_len (l : List Nat) : (natI l).length = l.length := by simp [natI]
theorem natI_at {l : List Nat} {k f : Nat} (h : l[k]? = some f) : (natI l).getD k 0 = (f : Int) := by
  unfold natI
  rw [List.getD_eq_getElem?_getD, List.getElem?_map, h]; rfl
theorem zero_getD (j n : Nat) : (List.replicate n (0 : Int)).getD j 0 = 0 := by
  rw [List.getD_eq_getElem?_getD, List.getElem?_replicate]
  split <;> rfl
def FrRel (w : World) (g : Nat) (l : List Nat) (i : Value) (wr : World) : Prop := ∃ (k : Nat) (C : Array Value), k ≤ l.length ∧ i = .int .i64 (k : Int) ∧ InB wr g 0 C 5 (framesB (l.take k) ++ List.replicate (2 * (l.length - k)) 0) ∧ Chg NoB w wr
def FrPost (w : World) (l : List Nat) (e : Ending) (w' : World) : Prop := ∃ (g : Nat) (C : Array Value) (c : Nat), e = .returned (.slice (some ⟨g, 0, none⟩) (framesB l).length c) ∧ (framesB l).length ≤ c ∧ w.heap.size ≤ g ∧ InB w' g 0 C 5 (framesB l) ∧ Chg NoB w w'
set_option maxRecDepth 100000 in
set_option maxHeartbeats 4000000 in
theorem frames_any (l : List Nat) (hl : l.length ≤ 100) (hf : ∀ f, f ∈ l → f < 1024) (A : Option Addr) (c : Nat) (w : World) (hr : Rd w .i64 A (natI l)) :
    Calls Try.prog 28 #[.slice A l.length c] w (FrPost w l) := by
  obtain ⟨n, hn⟩ : ∃ n, n = l.length := ⟨_, rfl⟩
  have hmk : ∀ w, (Instr.makeSlice 38 (.int .i64 (2 * (n : Int))) (.int .i64 (2 * (n : Int)))).run Try.prog w = .ok (.slice (some ⟨w.heap.size, 0, none⟩) (2 * n) (2 * n)) (w.alloc (.cells (Array.replicate (2 * n) (.int .u8 0)) 5)) := fun w => by
    have h := run_make1 (P := Try.prog) 38 5 (.int .u8 0) 1 Try.underlying38 info8 rfl (2 * (n : Int)) (by omega) (by omega) (by omega) w
    rw [show (2 * (n : Int)).toNat = 2 * n by omega] at h
    exact h
  have bn : 0 ≤ (n : Int) ∧ (n : Int) ≤ 100 := ⟨by omega, by omega⟩
  have bn2 : 2 * (n : Int) ≤ 9223372036854775807 := by omega
  have hB0 : FrRel w w.heap.size l (.int .i64 0) (w.alloc (.cells (Array.replicate (2 * n) (.int .u8 0)) 5)) := by
    refine ⟨0, _, Nat.zero_le _, rfl, ⟨bnew w _, ?_, fun j hj => ?_⟩, (Chg.refl NoB w).alloc _⟩
    · show 0 + ([] ++ List.replicate (2 * (l.length - 0)) (0 : Int)).length ≤ _
      simp [hn]
    · have hj' : j < ([] ++ List.replicate (2 * (l.length - 0)) (0 : Int)).length := hj
      simp at hj'
      show _ = some (Value.int .u8 ((([] : List Int) ++ List.replicate (2 * (l.length - 0)) (0 : Int)).getD j 0))
      rw [List.nil_append, zero_getD, Nat.zero_add, Array.getElem?_replicate, if_pos (by omega)]
  have H := Lib.hid (And.intro hr (And.intro hf (And.intro hl hn)))
  rw [← hn]
  clear hr hf hl hn
  go_enter Try.func28, Try.ntmps28
  go_wp2_with fail
  clear hmk
  go_loopw [12] (fun i wr => FrRel w w.heap.size l i wr) (fun i wr => n - (intOf i).toNat)
  case atStart => exact hB0
  case round =>
    clear hB0
    obtain ⟨k, C, hk, rfl, hI, hC⟩ := hrel
    have hn := H.out.2.2.2
    rcases Nat.eq_or_lt_of_le hk with hk2 | hk2
    · have e0 : decide ((k : Int) < (n : Int)) = false := decide_eq_false (by omega)
      have e1 : decide (k < n) = false := decide_eq_false (by omega)
      have F := Lib.hid (show FrPost w l (.returned (.slice (some ⟨w.heap.size, 0, none⟩) (2 * n) (2 * n))) wr from ⟨_, C, 2 * n, by rw [framesB_len, hn], by rw [framesB_len, hn]; exact Nat.le_refl _, Nat.le_refl _, by
        rw [hk2, List.take_length, Nat.sub_self, Nat.mul_zero, List.replicate_zero, List.append_nil] at hI
        exact hI, hC⟩)
      clear hI hC hn hk hk2
      go_wp2_with fail
      go_ret
      exact F.out
    · obtain ⟨f, hfk⟩ : ∃ f, l[k]? = some f := ⟨_, List.getElem?_eq_getElem hk2⟩
      have hf1 := H.out.2.1 f (List.mem_of_getElem? hfk)
      have e0 : decide ((k : Int) < (n : Int)) = true := decide_eq_true (by omega)
      have e1 : decide (k < n) = true := decide_eq_true (by omega)
      have i1 : (k : Int) < (n : Int) := by omega
      obtain ⟨ad, hA, hx⟩ := H.out.1.at_ k (by rw [natI_len]; exact hk2)
      rw [natI_at hfk] at hx
      subst hA
      have x0 := hC.cell hx (fun e => e)
      have bf : 0 ≤ (f : Int) ∧ (f : Int) < 1024 := ⟨by omega, by omega⟩
      obtain ⟨L, hL⟩ : ∃ L, L = framesB (l.take k) ++ List.replicate (2 * (l.length - k)) (0 : Int) := ⟨_, rfl⟩
      have hLl : L.length = 2 * n := by
        rw [hL, List.length_append, framesB_len, List.length_take, List.length_replicate]
        omega
      rw [← hL] at hI
      have hp := put_yes w.heap.size 0 (2 * n) C 5 L (2 * k) 2 (f : Int) wr hI (by have := H.out.2.2.1; omega) (by omega) (by omega) (by decide) (by omega)
      rw [show ((2 * k : Nat) : Int) = 2 * (k : Int) by omega, hLl] at hp
      have bk : 0 ≤ 2 * (k : Int) ∧ 2 * (k : Int) ≤ 9223372036854775807 := ⟨by omega, by have := H.out.2.2.1; omega⟩
      have hms := Lib.hid (show n - ((k : Int) + 1).toNat < n - (k : Int).toNat by omega)
      have e5 : spl L (2 * k) (digs (f : Int) 2) = framesB (l.take (k + 1)) ++ List.replicate (2 * (l.length - (k + 1))) 0 := by
        have h5 := frames_spl l k f hfk (2 * (l.length - (k + 1)))
        rw [show 2 * (l.length - (k + 1)) + 2 = 2 * (l.length - k) by omega] at h5
        rw [hL]; exact h5
      rw [e5] at hp
      have HC := Lib.hid (And.intro hC hk2)
      clear hI hC hL hLl e5 hn hk hk2 hf1 hfk hx
      go_wp2_with fail
      refine hp.mono ?_
      rintro e w5 ⟨C', rfl, hI5, _, hC5⟩
      have F := Lib.hid (show FrRel w w.heap.size l (.int .i64 ((k : Int) + 1)) w5 from ⟨k + 1, C', HC.out.2, rfl, hI5, HC.out.1.trans hC5 (fun i hi e => by have : i = w.heap.size := e; omega)⟩)
      clear hp hI5 hC5 HC
      go_wp2_with fail
      exact ⟨F.out, hms.out⟩
end Go.Proofs.YtolojkfpokmdkaaRR.Reg
