/- Chapter 7: Bad and State. -/
import Derived.Test.YtolojkfpokmdkaaRRRegF
namespace Go.Proofs.YtolojkfpokmdkaaRR.Reg
open Go.RowKit Go.Maps Go.Sort Go.Shelf Go.ChangeMaps Go.WideShapes Go.Proofs.YtolojkfpokmdkaaRR.Hp Go.Proofs.YtolojkfpokmdkaaRR.By Go.Proofs.YtolojkfpokmdkaaRR.Disk Go.Proofs.YtolojkfpokmdkaaRR.Word Go.Proofs.YtolojkfpokmdkaaRR.WordP Go.Proofs.YtolojkfpokmdkaaRR.Slot Go.Proofs.YtolojkfpokmdkaaRR.Jour
set_option linter.unusedVariables false
set_option linter.unusedSimpArgs false
/-- all that are bad -/
def RSt.badL (x : RSt) : List Int := ((List.range 1024).filter x.bad).map (fun k : Nat => (k : Int))
theorem badL_sorted (x : RSt) : x.badL.Pairwise (· ≤ ·) ∧ x.badL.Nodup := by
  unfold RSt.badL
  have h : ((List.range 1024).filter x.bad).Pairwise (· < ·) := List.pairwise_lt_range.filter _
  refine ⟨?_, ?_⟩
  · rw [List.pairwise_map]; exact h.imp (fun h => by omega)
  · rw [List.nodup_iff_pairwise_ne, List.pairwise_map]; exact h.imp (fun h e => by omega)
theorem badL_mem (x : RSt) (k : Int) : k ∈ x.badL ↔ (0 ≤ k ∧ k.toNat < 1024 ∧ x.bad k.toNat = true) := by
  unfold RSt.badL
  rw [List.mem_map]
  constructor
  · rintro ⟨i, hi, rfl⟩
    rw [List.mem_filter] at hi
    exact ⟨by omega, by simpa using hi.1, by simpa using hi.2⟩
  · rintro ⟨h0, h1, h2⟩
    exact ⟨k.toNat, by rw [List.mem_filter]; exact ⟨by simpa using h1, by simpa using h2⟩, by omega⟩
theorem badL_len (x : RSt) : x.badL.length ≤ 1024 := by
  unfold RSt.badL
  rw [List.length_map]
  have := List.length_filter_le x.bad (List.range 1024)
  rw [List.length_range] at this
  exact this
def BadPost (w : World) (x : RSt) (e : Ending) (w' : World) : Prop := ∃ v, e = .returned v ∧ w'.ownsRow w.heap.size 3 1 v x.badL.length (x.badL.map (Value.int .i64)) ∧ Chg NoB w w'
theorem bads_own {w : World} {r j bm K : Nat} {x : RSt} (h : RM w r j bm x K) : ∃ (D0 : DataW Unit) (nn : Nat), w.ownsMap Try.prog 3 (anyElem (H := Unit)) bm nn D0 ∧ (intKeys D0).Perm x.badL ∧ Maps.size D0 ≤ 1024 := by
  obtain ⟨M, hMa, hMo⟩ := h.mp
  obtain ⟨D0, nn, hown, hnd, hmem, hsz⟩ := own_of_map (H := Unit) (P := Try.prog) Try.underlying3 hMa 1024 (by decide) (fun k hk => by
    cases e : M k with
    | none => exact absurd e hk
    | some v =>
      obtain ⟨c, _, _, _, a, b, _⟩ := hMo.1 _ _ e
      exact ⟨a, by omega⟩)
  refine ⟨D0, nn, hown, (List.perm_ext_iff_of_nodup hnd (badL_sorted x).2).mpr (fun k => ?_), hsz⟩
  rw [hmem, badL_mem]
  constructor
  · intro hk
    cases e : M k with
    | none => exact absurd e hk
    | some v =>
      obtain ⟨c, _, _, _, a, b, d⟩ := hMo.1 _ _ e
      exact ⟨a, by omega, d⟩
  · rintro ⟨h0, h1, h2⟩
    have := hMo.2 k.toNat h1 h2
    rw [show ((k.toNat : Nat) : Int) = k by omega] at this
    exact this
set_option maxHeartbeats 1000000 in
theorem bad_any {w : World} {r j bm K : Nat} {x : RSt} (h : RM w r j bm x K) : Calls Try.prog 11 #[.pointer (some ⟨r, 0, none⟩)] w (BadPost w x) := by
  obtain ⟨k0, k1⟩ := h.rb.two
  clear k0
  obtain ⟨D0, nn, hown, hlo, hsz⟩ := bads_own h
  have hmax : Maps.size D0 ≤ maxLen := by unfold maxLen; omega
  have hbytes : Maps.size D0 * 8 ≤ 140737488355328 := by omega
  have hbl := hown.lt
  have hlo2 := Lib.hid (And.intro hlo (badL_sorted x).1)
  clear hlo hsz h
  refine (callsIn_wide (n := 6)).1 ?_
  have hseq : SeqGives Fence.wide 2 Try.prog 43 #[.pointer (some ⟨w.heap.size, 0, none⟩)] encZ (fun ss => ss.Perm (intKeys D0)) (Maps.size D0) (w.alloc (.cells #[.map (some bm)] 51)) :=
    AnyZI.keys_gives (ρ := Try.keysB_ren) { Try.keysB with } Fence.wide _ trivial rfl (by omega) w.heap.size bm nn D0 _ (by simp) (by simp) (by
      obtain ⟨es, clock, hb, Ft, hs, hD⟩ := hown
      exact ⟨es, clock, (Below.heap_alloc _ _ bm hbl).trans hb, Ft, hs, hD⟩)
  have cK : ∀ bm W, CallsIn Fence.wide 5 Try.prog 31 #[.map bm] W fun e w' => e = .returned (.func (.func 43) #[] #[.pointer (some ⟨W.heap.size, 0, none⟩)]) ∧ w' = W.alloc (.cells #[.map bm] 51) := fun bm W => AnyZI.keys_in Try.keysB Fence.wide 5 trivial rfl bm W
  have cS := AnyZI.sorted_in Try.sortedA Fence.wide 5 trivial trivial trivial trivial rfl (by omega) (sortsA _) (enters_of Try.func42 (by kernel_rfl) rfl) 43 #[.pointer (some ⟨w.heap.size, 0, none⟩)] trivial (enters_of Try.func43 (by kernel_rfl) rfl) _ _ hmax hbytes _ hseq
  change CallsIn _ _ Try.prog 30 _ _ _ at cS
  have hfK : Fence.wide.fn 31 := trivial
  have hfS : Fence.wide.fn 30 := trivial
  clear hseq hown hmax hbytes
  refine callsIn_of_wp Try.func11 rfl trivial ?_ rfl
  simp only [Try.ntmps11, List.size_toArray, List.length_cons, List.length_nil, Nat.reduceAdd, Nat.reduceSub, Array.replicate_succ, Array.replicate_zero, List.push_toArray, List.append_toArray, List.nil_append, List.cons_append]
  gi_wp2_with (first
    | (gi_at_call 31; refine (cK _ _).mono ?_; rintro e w' ⟨rfl, rfl⟩)
    | (gi_at_call 30; refine cS.mono ?_; rintro e w' ⟨v, ss, rfl, hS, hrow, hnil, hb⟩))
  go_ret
  have he := sort_eq ss x.badL (intKeys D0) hS hlo2.out.1 hlo2.out.2
  have hlen : ss.length = x.badL.length := by rw [← he]; exact (List.mergeSort_perm _ _).length_eq.symm
  rw [he, hlen] at hrow
  refine ⟨v, rfl, ownsRow_base_a hrow (by simp), Chg.of_below (((Below.refl _ w).alloc (Nat.le_refl _) _).trans (hb.mono (by simp)))⟩
theorem bad_nil (w : World) : Calls Try.prog 11 #[.pointer none] w fun e w' => e = .returned (.slice none 0 0) ∧ w = w' := by
  go_enter Try.func11, Try.ntmps11
  go_wp2
  go_ret
  exact ⟨rfl, rfl⟩
theorem stat_any {w : World} {r j bm K : Nat} {x : RSt} (h : RM w r j bm x K) (s : Nat) (hs : s < 32) : Calls Try.prog 12 #[.pointer (some ⟨r, 0, none⟩), .int .i64 (s : Int)] w fun e w' => e = .returned (.int .i64 (x.st s)) ∧ w = w' := by
  obtain ⟨c1, _⟩ := h.rb.at_ hs
  have hst := state_any (s : Int) 0 w
  rw [decide_eq_true (show stOk (s : Int) 0 from ⟨⟨by omega, by omega⟩, by decide, by decide⟩)] at hst
  have bs : 0 ≤ (s : Int) ∧ (s : Int) < 32 := ⟨by omega, by omega⟩
  clear h
  go_enter Try.func12, Try.ntmps12
  go_wp2_with fail
  refine hst.mono ?_
  rintro e w1 ⟨rfl, rfl⟩
  go_wp2_with fail
  go_ret
  exact ⟨rfl, rfl⟩
theorem stat_nil (n : Int) (w : World) : Calls Try.prog 12 #[.pointer none, .int .i64 n] w fun e w' => e = .returned (.int .i64 0) ∧ w = w' := by
  go_enter Try.func12, Try.ntmps12
  go_wp2_with fail
  go_ret
  exact ⟨rfl, rfl⟩
theorem setst_nil (s n : Int) (w : World) : Calls Try.prog 10 #[.pointer none, .int .i64 s, .int .i64 n] w fun e w' => e = .returned (.int .i64 1) ∧ w = w' := by
  go_enter Try.func10, Try.ntmps10
  go_wp2_with fail
  go_ret
  exact ⟨rfl, rfl⟩
end Go.Proofs.YtolojkfpokmdkaaRR.Reg
