/- A disk: what is loose, sorted. -/
import Derived.Test.YtmonkoclbcahiaaDiskE
import Derived.Test.YtmonkoclbcahiaaKeys
namespace Go.Proofs.Ytmonkoclbcahiaa.Disk
open Go.RowKit Go.Maps Go.Sort Go.Shelf Go.ChangeMaps Go.WideShapes Go.Proofs.Ytmonkoclbcahiaa.Hp Go.Proofs.Ytmonkoclbcahiaa.By
set_option linter.unusedVariables false
set_option linter.unusedSimpArgs false
theorem sortsA (m : Nat) : AnyZI.SortsIn Try.prog Try.sortedA_ren Fence.wide m :=
  ⟨fun blk off cap ss W hH hblk hsz => callsIn_wide.2 (AnyM.slices_Sort_int Try.sortA blk off cap ss W hH hblk hsz),
   fun p cap W => callsIn_wide.2 (AnyM.slices_Sort_int_none Try.sortA p cap W)⟩
/-- a sorted list of the numbers that a map has -/
def IsKeys (M : Int → Option Value) (L : List Int) : Prop := L.Pairwise (· ≤ ·) ∧ L.Nodup ∧ ∀ k, k ∈ L ↔ M k ≠ none
def anyElem {H : Type} : Value → Option (DataW H × List MemPlace) := fun _ => some (.agg [], [])
theorem rg_any {H : Type} {P : Program} {kt : TypeId} (hk : P.underlying kt = some (.int .i64)) (x : MapEntry) (k : Int) (hx : x.key = .int .i64 k) (hw : (Lit.int .i64 k).wf = true) : WideElems.rd P kt (anyElem (H := H)) x = some (.int .i64 k, .agg []) := by
  unfold WideElems.rd anyElem
  rw [hx, keyOf_int_mk hk hw]
  rfl
/-- distinct numbers below N, in another order -/
theorem range_nodup (N : Nat) : ((List.range N).map (fun i : Nat => (i : Int))).Nodup := by
  rw [List.nodup_iff_pairwise_ne, List.pairwise_map]
  exact List.Pairwise.imp (fun h e => h (by omega)) (List.nodup_iff_pairwise_ne.mp List.nodup_range)
theorem below_perm (L : List Int) (N : Nat) (h : L.Nodup) (hM : ∀ k ∈ L, 0 ≤ k ∧ k < N) : L.Perm (((List.range N).map (fun i : Nat => (i : Int))).filter (fun i => decide (i ∈ L))) := by
  refine (List.perm_ext_iff_of_nodup h ((range_nodup N).filter _)).mpr (fun k => ?_)
  rw [List.mem_filter, List.mem_map]
  constructor
  · intro hk
    obtain ⟨a, b⟩ := hM k hk
    exact ⟨⟨k.toNat, by simp; omega, by omega⟩, decide_eq_true hk⟩
  · rintro ⟨_, h2⟩
    exact of_decide_eq_true h2
/-- the map, as the library's contracts speak of it -/
theorem own_of_map {H : Type} {P : Program} {kt : TypeId} (hk : P.underlying kt = some (.int .i64)) {w : World} {b : Nat} {M : Int → Option Value} (h : MapAt w b M) (N : Nat) (hN : N ≤ 4096) (hM : ∀ k, M k ≠ none → 0 ≤ k ∧ k < N) :
    ∃ (D0 : DataW H) (nn : Nat), w.ownsMap P kt (anyElem (H := H)) b nn D0 ∧ (intKeys D0).Nodup ∧ (∀ k, k ∈ intKeys D0 ↔ M k ≠ none) ∧ Maps.size D0 ≤ N := by
  obtain ⟨es, cl, hb, ⟨w1, w2, w3, w4⟩, hMe⟩ := h
  have key : ∀ x ∈ es.toList, ∃ k, x.key = .int .i64 k ∧ (0 ≤ k ∧ k < N) := by
    intro x hx
    obtain ⟨k, e⟩ := w1 x hx
    exact ⟨k, e, hM k (by rw [(hMe k x.val).mpr ⟨x, hx, e, rfl⟩]; simp)⟩
  have wf : ∀ x ∈ es.toList, ∃ k, x.key = .int .i64 k ∧ (Lit.int .i64 k).wf = true := by
    intro x hx
    obtain ⟨k, e, h1, h2⟩ := key x hx
    exact ⟨k, e, WalkArith.wf_i64 (by omega)⟩
  -- the keys, as numbers
  have nums : ∃ L : List Int, L.length = es.size ∧ (es.toList.map (WideElems.rg P kt (anyElem (H := H)))).map (fun p => Go.intOf p.1) = L ∧ L.Nodup ∧ ∀ k, k ∈ L ↔ M k ≠ none := by
    refine ⟨_, by simp, rfl, ?_, fun k => ?_⟩
    · rw [List.map_map]
      rw [List.nodup_iff_pairwise_ne, List.pairwise_map]
      refine List.Pairwise.imp_of_mem ?_ w2
      intro a b ha hb' hab e
      obtain ⟨ka, ea, wa⟩ := wf a ha
      obtain ⟨kb, eb, wb⟩ := wf b hb'
      simp only [Function.comp, WideElems.rg, rg_any hk a ka ea wa, rg_any hk b kb eb wb, Option.getD_some] at e
      apply hab
      have : ka = kb := e
      rw [ea, eb, this]
    · rw [List.map_map, List.mem_map]
      constructor
      · rintro ⟨x, hx, e⟩
        obtain ⟨kx, ex, wx⟩ := wf x hx
        simp only [Function.comp, WideElems.rg, rg_any hk x kx ex wx, Option.getD_some] at e
        have : kx = k := e
        subst this
        rw [(hMe kx x.val).mpr ⟨x, hx, ex, rfl⟩]; simp
      · intro hne
        cases hv : M k with
        | none => exact absurd hv hne
        | some v =>
          obtain ⟨x, hx, ex, _⟩ := (hMe k v).mp hv
          obtain ⟨kx, ex', wx⟩ := wf x hx
          have : kx = k := by rw [ex] at ex'; simpa using ex'.symm
          subst this
          exact ⟨x, hx, by simp only [Function.comp, WideElems.rg, rg_any hk x kx ex wx, Option.getD_some]; rfl⟩
  obtain ⟨L, l1, l2, l3, l4⟩ := nums
  have hperm : (intKeys (.map ((es.toList.map (WideElems.rg P kt (anyElem (H := H)))).foldr DataW.insert []))).Perm L := by
    rw [← l2]
    exact (sorted_perm _).map _
  have hsz : es.size ≤ N := by
    rw [← l1]
    -- distinct numbers below N
    have hp := below_perm L N l3 (fun k hk' => hM k ((l4 k).mp hk'))
    have h2 := List.length_filter_le (fun i => decide (i ∈ L)) ((List.range N).map (fun i : Nat => (i : Int)))
    rw [hp.length_eq]
    simpa using h2
  refine ⟨_, es.size, ⟨es, cl, hb, ⟨by unfold maxLen; omega, ⟨w4, ?_, ?_⟩, fun x hx => ?_⟩, Nat.le_refl _, rfl⟩, hperm.nodup_iff.mpr l3, fun k => ?_, ?_⟩
  · rw [List.nodup_iff_pairwise_ne, List.pairwise_map]; exact w3
  · rw [List.nodup_iff_pairwise_ne, List.pairwise_map]; exact w2
  · obtain ⟨k, e, wk⟩ := wf x hx
    exact ⟨_, rg_any hk x k e wk⟩
  · rw [hperm.mem_iff]; exact l4 k
  · show (List.foldr DataW.insert [] _).length ≤ N
    rw [length_sorted]; simpa using hsz
/-- what is loose -/
def DSt.looseL (s : DSt) : List Int := ((List.range s.n).filter (fun k => (s.loose k).isSome)).map (fun k : Nat => (k : Int))
theorem looseL_sorted (s : DSt) : s.looseL.Pairwise (· ≤ ·) ∧ s.looseL.Nodup := by
  unfold DSt.looseL
  have h : ((List.range s.n).filter (fun k => (s.loose k).isSome)).Pairwise (· < ·) := List.pairwise_lt_range.filter _
  refine ⟨?_, ?_⟩
  · rw [List.pairwise_map]; exact h.imp (fun h => by omega)
  · rw [List.nodup_iff_pairwise_ne, List.pairwise_map]; exact h.imp (fun h e => by omega)
theorem looseL_mem (s : DSt) (k : Int) : k ∈ s.looseL ↔ (0 ≤ k ∧ k.toNat < s.n ∧ (s.loose k.toNat).isSome = true) := by
  unfold DSt.looseL
  rw [List.mem_map]
  constructor
  · rintro ⟨i, hi, rfl⟩
    rw [List.mem_filter] at hi
    exact ⟨by omega, by simpa using hi.1, by simpa using hi.2⟩
  · rintro ⟨h0, h1, h2⟩
    exact ⟨k.toNat, by rw [List.mem_filter]; exact ⟨by simpa using h1, by simpa using h2⟩, by omega⟩
theorem sort_eq (ss L D : List Int) (h1 : ss.Perm D) (h2 : D.Perm L) (h3 : L.Pairwise (· ≤ ·)) : ss.mergeSort (fun x y => decide (x ≤ y)) = L := by
  refine List.Perm.eq_of_pairwise (le := (· ≤ ·)) (fun a b _ _ h h' => by omega) ?_ h3 ((List.mergeSort_perm _ _).trans (h1.trans h2))
  refine (List.pairwise_mergeSort (le := fun x y => decide (x ≤ y)) (fun a b c h h' => ?_) (fun a b => ?_) ss).imp (fun h => of_decide_eq_true h)
  · have := of_decide_eq_true h; have := of_decide_eq_true h'; exact decide_eq_true (by omega)
  · by_cases c : a ≤ b
    · simp [c]
    · have : b ≤ a := by omega
      simp [this]
def LoosePost (w : World) (s : DSt) (e : Ending) (w' : World) : Prop := ∃ v, e = .returned v ∧ w'.ownsRow w.heap.size 3 1 v s.looseL.length (s.looseL.map (Value.int .i64)) ∧ Chg NoB w w'
set_option maxHeartbeats 1000000 in
theorem loose_any (d : Nat) (ρ : Nat → Nat) (s : DSt) (w : World) (h : DiskAt w d ρ s) : Calls Try.prog 26 #[.pointer (some ⟨d, 0, none⟩)] w (LoosePost w s) := by
  obtain ⟨sv, mb, cap, SV, SB, LV, LB, h⟩ := h
  obtain ⟨k0, k1, k2, k3, k4, k5⟩ := six h.b
  clear k0 k2 k3 k4 k5
  obtain ⟨D0, nn, hown, hnd, hmem, hsz⟩ := own_of_map (H := Unit) (P := Try.prog) Try.underlying3 h.mp s.n h.n2 (fun k hk => by
    unfold looseM at hk
    by_cases c : 0 ≤ k
    · rw [if_pos c] at hk
      cases hl : s.loose k.toNat with
      | none => rw [hl] at hk; exact absurd rfl hk
      | some l => have := (h.lo _ _ hl).1; omega
    · rw [if_neg c] at hk; exact absurd rfl hk)
  have hlo : (intKeys D0).Perm s.looseL := by
    refine (List.perm_ext_iff_of_nodup hnd (looseL_sorted s).2).mpr (fun k => ?_)
    rw [hmem, looseL_mem]
    unfold looseM
    by_cases c : 0 ≤ k
    · rw [if_pos c]
      cases hl : s.loose k.toNat with
      | none => simp
      | some l => have := (h.lo _ _ hl).1; simp [c, this]
    · rw [if_neg c]; simp [c]
  have hmax : Maps.size D0 ≤ maxLen := by have := h.n2; unfold maxLen; omega
  have hbytes : Maps.size D0 * 8 ≤ 140737488355328 := by have := h.n2; omega
  have hbl := hown.lt
  have hlo2 := Lib.hid (And.intro hlo (looseL_sorted s).1)
  clear hlo hnd hmem hsz h
  refine (callsIn_wide (n := 6)).1 ?_
  have hseq : SeqGives Fence.wide 2 Try.prog 57 #[.pointer (some ⟨w.heap.size, 0, none⟩)] encZ (fun ss => ss.Perm (intKeys D0)) (Maps.size D0) (w.alloc (.cells #[.map (some mb)] 74)) :=
    AnyZI.keys_gives (ρ := Try.keysA_ren) { Try.keysA with } Fence.wide _ trivial rfl (by omega) w.heap.size mb nn D0 _ (by simp) (by simp) (by
      obtain ⟨es, clock, hb, Ft, hs, hD⟩ := hown
      exact ⟨es, clock, (Below.heap_alloc _ _ mb hbl).trans hb, Ft, hs, hD⟩)
  have cK : ∀ mb W, CallsIn Fence.wide 5 Try.prog 46 #[.map mb] W fun e w' => e = .returned (.func (.func 57) #[] #[.pointer (some ⟨W.heap.size, 0, none⟩)]) ∧ w' = W.alloc (.cells #[.map mb] 74) := fun mb W => AnyZI.keys_in Try.keysA Fence.wide 5 trivial rfl mb W
  have cS := AnyZI.sorted_in Try.sortedA Fence.wide 5 trivial trivial trivial trivial rfl (by omega) (sortsA _) (enters_of Try.func56 (by kernel_rfl) rfl) 57 #[.pointer (some ⟨w.heap.size, 0, none⟩)] trivial (enters_of Try.func57 (by kernel_rfl) rfl) _ _ hmax hbytes _ hseq
  change CallsIn _ _ Try.prog 45 _ _ _ at cS
  have hfK : Fence.wide.fn 46 := trivial
  have hfS : Fence.wide.fn 45 := trivial
  clear hseq hown hmax hbytes
  refine callsIn_of_wp Try.func26 rfl trivial ?_ rfl
  simp only [Try.ntmps26, List.size_toArray, List.length_cons, List.length_nil, Nat.reduceAdd, Nat.reduceSub, Array.replicate_succ, Array.replicate_zero, List.push_toArray, List.append_toArray, List.nil_append, List.cons_append]
  gi_wp2_with (first
    | (gi_at_call 46; refine (cK _ _).mono ?_; rintro e w' ⟨rfl, rfl⟩)
    | (gi_at_call 45; refine cS.mono ?_; rintro e w' ⟨v, ss, rfl, hS, hrow, hnil, hb⟩))
  go_ret
  have he := sort_eq ss s.looseL (intKeys D0) hS hlo2.out.1 hlo2.out.2
  have hlen : ss.length = s.looseL.length := by rw [← he]; exact (List.mergeSort_perm _ _).length_eq.symm
  rw [he, hlen] at hrow
  refine ⟨v, rfl, ownsRow_base_a hrow (by simp), Chg.of_below (((Below.refl _ w).alloc (Nat.le_refl _) _).trans (hb.mono (by simp)))⟩
theorem loose_nil (w : World) : Calls Try.prog 26 #[.pointer none] w fun e w' => e = .returned (.slice none 0 0) ∧ w = w' := by
  go_enter Try.func26, Try.ntmps26
  go_wp2
  go_ret
  exact ⟨rfl, rfl⟩
end Go.Proofs.Ytmonkoclbcahiaa.Disk
