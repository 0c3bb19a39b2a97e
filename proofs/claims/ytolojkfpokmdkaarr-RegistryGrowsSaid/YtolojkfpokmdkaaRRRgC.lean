/- Several texts in one (a claim holds at most 60 files). -/
import Derived.Test.YtolojkfpokmdkaaRRRgB
import Derived.Test.YtolojkfpokmdkaaRRKeys
import Derived.Test.YtolojkfpokmdkaaRRRgA
-- XLoose
namespace Go.Proofs.YtolojkfpokmdkaaRR.Disk
open Go.RowKit Go.Maps Go.Sort Go.Shelf Go.ChangeMaps Go.WideShapes Go.Proofs.YtolojkfpokmdkaaRR.Hp Go.Proofs.YtolojkfpokmdkaaRR.By
set_option linter.unusedVariables false
set_option linter.unusedSimpArgs false
theorem sortsA (m : Nat) : AnyZI.SortsIn Try.prog Try.sortedA_ren Fence.wide m :=
  ⟨fun blk off cap ss W hH hblk hsz => callsIn_wide.2 (AnyM.slices_Sort_int Try.sortA blk off cap ss W hH hblk hsz),
   fun p cap W => callsIn_wide.2 (AnyM.slices_Sort_int_none Try.sortA p cap W)⟩
/-- a sorted list of the numbers that a map has -/
def IsKeys (M : Int → Option Value) (L : List Int) : Prop := L.Pairwise (· ≤ ·) ∧ L.Nodup ∧ ∀ k, k ∈ L ↔ M k ≠ none
def anyElem {H : Type} : Value → Option (DataW H × List MemPlace) := fun _ => some (.agg [], [])
theorem rg_any {H : Type} {P : Program} {kt : TypeId} (hk : P.underlying kt = some (.int .i64)) (x : MapEntry) (k : Int) (hx : x.key = .int .i64 k) (hw : (Lit.int .i64 k).wf = true) : WideElems.rd P kt (anyElem (H := H)) x = some (.int .i64 k, .agg []) := by
  unfold WideElems.rd anyElem
  rw [hx, keyOf_int_mk hk hw]
  rfl
/-- distinct numbers below N, in another order -/
theorem range_nodup (N : Nat) : ((List.range N).map (fun i : Nat => (i : Int))).Nodup := by
  rw [List.nodup_iff_pairwise_ne, List.pairwise_map]
  exact List.Pairwise.imp (fun h e => h (by omega)) (List.nodup_iff_pairwise_ne.mp List.nodup_range)
theorem below_perm (L : List Int) (N : Nat) (h : L.Nodup) (hM : ∀ k ∈ L, 0 ≤ k ∧ k < N) : L.Perm (((List.range N).map (fun i : Nat => (i : Int))).filter (fun i => decide (i ∈ L))) := by
  refine (List.perm_ext_iff_of_nodup h ((range_nodup N).filter _)).mpr (fun k => ?_)
  rw [List.mem_filter, List.mem_map]
  constructor
  · intro hk
    obtain ⟨a, b⟩ := hM k hk
    exact ⟨⟨k.toNat, by simp; omega, by omega⟩, decide_eq_true hk⟩
  · rintro ⟨_, h2⟩
    exact of_decide_eq_true h2
/-- the map, as the library's contracts speak of it -/
theorem own_of_map {H : Type} {P : Program} {kt : TypeId} (hk : P.underlying kt = some (.int .i64)) {w : World} {b : Nat} {M : Int → Option Value} (h : MapAt w b M) (N : Nat) (hN : N ≤ 4096) (hM : ∀ k, M k ≠ none → 0 ≤ k ∧ k < N) :
    ∃ (D0 : DataW H) (nn : Nat), w.ownsMap P kt (anyElem (H := H)) b nn D0 ∧ (intKeys D0).Nodup ∧ (∀ k, k ∈ intKeys D0 ↔ M k ≠ none) ∧ Maps.size D0 ≤ N := by
  obtain ⟨es, cl, hb, ⟨w1, w2, w3, w4⟩, hMe⟩ := h
  have key : ∀ x ∈ es.toList, ∃ k, x.key = .int .i64 k ∧ (0 ≤ k ∧ k < N) := by
    intro x hx
    obtain ⟨k, e⟩ := w1 x hx
    exact ⟨k, e, hM k (by rw [(hMe k x.val).mpr ⟨x, hx, e, rfl⟩]; simp)⟩
  have wf : ∀ x ∈ es.toList, ∃ k, x.key = .int .i64 k ∧ (Lit.int .i64 k).wf = true := by
    intro x hx
    obtain ⟨k, e, h1, h2⟩ := key x hx
    exact ⟨k, e, WalkArith.wf_i64 (by omega)⟩
  -- the keys, as numbers
  have nums : ∃ L : List Int, L.length = es.size ∧ (es.toList.map (WideElems.rg P kt (anyElem (H := H)))).map (fun p => Go.intOf p.1) = L ∧ L.Nodup ∧ ∀ k, k ∈ L ↔ M k ≠ none := by
    refine ⟨_, by simp, rfl, ?_, fun k => ?_⟩
    · rw [List.map_map]
      rw [List.nodup_iff_pairwise_ne, List.pairwise_map]
      refine List.Pairwise.imp_of_mem ?_ w2
      intro a b ha hb' hab e
      obtain ⟨ka, ea, wa⟩ := wf a ha
      obtain ⟨kb, eb, wb⟩ := wf b hb'
      simp only [Function.comp, WideElems.rg, rg_any hk a ka ea wa, rg_any hk b kb eb wb, Option.getD_some] at e
      apply hab
      have : ka = kb := e
      rw [ea, eb, this]
    · rw [List.map_map, List.mem_map]
      constructor
      · rintro ⟨x, hx, e⟩
        obtain ⟨kx, ex, wx⟩ := wf x hx
        simp only [Function.comp, WideElems.rg, rg_any hk x kx ex wx, Option.getD_some] at e
        have : kx = k := e
        subst this
        rw [(hMe kx x.val).mpr ⟨x, hx, ex, rfl⟩]; simp
      · intro hne
        cases hv : M k with
        | none => exact absurd hv hne
        | some v =>
          obtain ⟨x, hx, ex, _⟩ := (hMe k v).mp hv
          obtain ⟨kx, ex', wx⟩ := wf x hx
          have : kx = k := by rw [ex] at ex'; simpa using ex'.symm
          subst this
          exact ⟨x, hx, by simp only [Function.comp, WideElems.rg, rg_any hk x kx ex wx, Option.getD_some]; rfl⟩
  obtain ⟨L, l1, l2, l3, l4⟩ := nums
  have hperm : (intKeys (.map ((es.toList.map (WideElems.rg P kt (anyElem (H := H)))).foldr DataW.insert []))).Perm L := by
    rw [← l2]
    exact (sorted_perm _).map _
  have hsz : es.size ≤ N := by
    rw [← l1]
    -- distinct numbers below N
    have hp := below_perm L N l3 (fun k hk' => hM k ((l4 k).mp hk'))
    have h2 := List.length_filter_le (fun i => decide (i ∈ L)) ((List.range N).map (fun i : Nat => (i : Int)))
    rw [hp.length_eq]
    simpa using h2
  refine ⟨_, es.size, ⟨es, cl, hb, ⟨by unfold maxLen; omega, ⟨w4, ?_, ?_⟩, fun x hx => ?_⟩, Nat.le_refl _, rfl⟩, hperm.nodup_iff.mpr l3, fun k => ?_, ?_⟩
  · rw [List.nodup_iff_pairwise_ne, List.pairwise_map]; exact w3
  · rw [List.nodup_iff_pairwise_ne, List.pairwise_map]; exact w2
  · obtain ⟨k, e, wk⟩ := wf x hx
    exact ⟨_, rg_any hk x k e wk⟩
  · rw [hperm.mem_iff]; exact l4 k
  · show (List.foldr DataW.insert [] _).length ≤ N
    rw [length_sorted]; simpa using hsz
/-- what is loose -/
def DSt.looseL (s : DSt) : List Int := ((List.range s.n).filter (fun k => (s.loose k).isSome)).map (fun k : Nat => (k : Int))
theorem looseL_sorted (s : DSt) : s.looseL.Pairwise (· ≤ ·) ∧ s.looseL.Nodup := by
  unfold DSt.looseL
  have h : ((List.range s.n).filter (fun k => (s.loose k).isSome)).Pairwise (· < ·) := List.pairwise_lt_range.filter _
  refine ⟨?_, ?_⟩
  · rw [List.pairwise_map]; exact h.imp (fun h => by omega)
  · rw [List.nodup_iff_pairwise_ne, List.pairwise_map]; exact h.imp (fun h e => by omega)
theorem looseL_mem (s : DSt) (k : Int) : k ∈ s.looseL ↔ (0 ≤ k ∧ k.toNat < s.n ∧ (s.loose k.toNat).isSome = true) := by
  unfold DSt.looseL
  rw [List.mem_map]
  constructor
  · rintro ⟨i, hi, rfl⟩
    rw [List.mem_filter] at hi
    exact ⟨by omega, by simpa using hi.1, by simpa using hi.2⟩
  · rintro ⟨h0, h1, h2⟩
    exact ⟨k.toNat, by rw [List.mem_filter]; exact ⟨by simpa using h1, by simpa using h2⟩, by omega⟩
theorem sort_eq (ss L D : List Int) (h1 : ss.Perm D) (h2 : D.Perm L) (h3 : L.Pairwise (· ≤ ·)) : ss.mergeSort (fun x y => decide (x ≤ y)) = L := by
  refine List.Perm.eq_of_pairwise (le := (· ≤ ·)) (fun a b _ _ h h' => by omega) ?_ h3 ((List.mergeSort_perm _ _).trans (h1.trans h2))
  refine (List.pairwise_mergeSort (le := fun x y => decide (x ≤ y)) (fun a b c h h' => ?_) (fun a b => ?_) ss).imp (fun h => of_decide_eq_true h)
  · have := of_decide_eq_true h; have := of_decide_eq_true h'; exact decide_eq_true (by omega)
  · by_cases c : a ≤ b
    · simp [c]
    · have : b ≤ a := by omega
      simp [this]
def LoosePost (w : World) (s : DSt) (e : Ending) (w' : World) : Prop := ∃ v, e = .returned v ∧ w'.ownsRow w.heap.size 3 1 v s.looseL.length (s.looseL.map (Value.int .i64)) ∧ Chg NoB w w'
set_option maxHeartbeats 1000000 in
theorem loose_any (d : Nat) (ρ : Nat → Nat) (s : DSt) (w : World) (h : DiskAt w d ρ s) : Calls Try.prog 32 #[.pointer (some ⟨d, 0, none⟩)] w (LoosePost w s) := by
  obtain ⟨sv, mb, cap, SV, SB, LV, LB, h⟩ := h
  obtain ⟨k0, k1, k2, k3, k4, k5⟩ := six h.b
  clear k0 k2 k3 k4 k5
  obtain ⟨D0, nn, hown, hnd, hmem, hsz⟩ := own_of_map (H := Unit) (P := Try.prog) Try.underlying3 h.mp s.n h.n2 (fun k hk => by
    unfold looseM at hk
    by_cases c : 0 ≤ k
    · rw [if_pos c] at hk
      cases hl : s.loose k.toNat with
      | none => rw [hl] at hk; exact absurd rfl hk
      | some l => have := (h.lo _ _ hl).1; omega
    · rw [if_neg c] at hk; exact absurd rfl hk)
  have hlo : (intKeys D0).Perm s.looseL := by
    refine (List.perm_ext_iff_of_nodup hnd (looseL_sorted s).2).mpr (fun k => ?_)
    rw [hmem, looseL_mem]
    unfold looseM
    by_cases c : 0 ≤ k
    · rw [if_pos c]
      cases hl : s.loose k.toNat with
      | none => simp
      | some l => have := (h.lo _ _ hl).1; simp [c, this]
    · rw [if_neg c]; simp [c]
  have hmax : Maps.size D0 ≤ maxLen := by have := h.n2; unfold maxLen; omega
  have hbytes : Maps.size D0 * 8 ≤ 140737488355328 := by have := h.n2; omega
  have hbl := hown.lt
  have hlo2 := Lib.hid (And.intro hlo (looseL_sorted s).1)
  clear hlo hnd hmem hsz h
  refine (callsIn_wide (n := 6)).1 ?_
  have hseq : SeqGives Fence.wide 2 Try.prog 55 #[.pointer (some ⟨w.heap.size, 0, none⟩)] encZ (fun ss => ss.Perm (intKeys D0)) (Maps.size D0) (w.alloc (.cells #[.map (some mb)] 67)) :=
    AnyZI.keys_gives (ρ := Try.keysA_ren) { Try.keysA with } Fence.wide _ trivial rfl (by omega) w.heap.size mb nn D0 _ (by simp) (by simp) (by
      obtain ⟨es, clock, hb, Ft, hs, hD⟩ := hown
      exact ⟨es, clock, (Below.heap_alloc _ _ mb hbl).trans hb, Ft, hs, hD⟩)
  have cK : ∀ mb W, CallsIn Fence.wide 5 Try.prog 44 #[.map mb] W fun e w' => e = .returned (.func (.func 55) #[] #[.pointer (some ⟨W.heap.size, 0, none⟩)]) ∧ w' = W.alloc (.cells #[.map mb] 67) := fun mb W => AnyZI.keys_in Try.keysA Fence.wide 5 trivial rfl mb W
  have cS := AnyZI.sorted_in Try.sortedA Fence.wide 5 trivial trivial trivial trivial rfl (by omega) (sortsA _) (enters_of Try.func42 (by kernel_rfl) rfl) 55 #[.pointer (some ⟨w.heap.size, 0, none⟩)] trivial (enters_of Try.func55 (by kernel_rfl) rfl) _ _ hmax hbytes _ hseq
  change CallsIn _ _ Try.prog 30 _ _ _ at cS
  have hfK : Fence.wide.fn 44 := trivial
  have hfS : Fence.wide.fn 30 := trivial
  clear hseq hown hmax hbytes
  refine callsIn_of_wp Try.func32 rfl trivial ?_ rfl
  simp only [Try.ntmps32, List.size_toArray, List.length_cons, List.length_nil, Nat.reduceAdd, Nat.reduceSub, Array.replicate_succ, Array.replicate_zero, List.push_toArray, List.append_toArray, List.nil_append, List.cons_append]
  gi_wp2_with (first
    | (gi_at_call 44; refine (cK _ _).mono ?_; rintro e w' ⟨rfl, rfl⟩)
    | (gi_at_call 30; refine cS.mono ?_; rintro e w' ⟨v, ss, rfl, hS, hrow, hnil, hb⟩))
  go_ret
  have he := sort_eq ss s.looseL (intKeys D0) hS hlo2.out.1 hlo2.out.2
  have hlen : ss.length = s.looseL.length := by rw [← he]; exact (List.mergeSort_perm _ _).length_eq.symm
  rw [he, hlen] at hrow
  refine ⟨v, rfl, ownsRow_base_a hrow (by simp), Chg.of_below (((Below.refl _ w).alloc (Nat.le_refl _) _).trans (hb.mono (by simp)))⟩
theorem loose_nil (w : World) : Calls Try.prog 32 #[.pointer none] w fun e w' => e = .returned (.slice none 0 0) ∧ w = w' := by
  go_enter Try.func32, Try.ntmps32
  go_wp2
  go_ret
  exact ⟨rfl, rfl⟩
end Go.Proofs.YtolojkfpokmdkaaRR.Disk

-- XFlush
namespace Go.Proofs.YtolojkfpokmdkaaRR.Disk
open Go.RowKit Go.Proofs.YtolojkfpokmdkaaRR.Hp Go.Proofs.YtolojkfpokmdkaaRR.By
set_option linter.unusedVariables false
set_option linter.unusedSimpArgs false
def DSt.sureAll (s : DSt) : DSt := { s with sure := fun k => (s.loose k).getD (s.sure k), loose := fun _ => none }
def DSt.flE (s : DSt) : Int := s.num.work.2
def DSt.fl (s : DSt) : DSt := if s.num.work.2 = 0 then ({ s with num := s.num.work.1 } : DSt).sureAll else { s with num := s.num.work.1 }
def FlushPost (w : World) (d : Nat) (ρ : Nat → Nat) (s : DSt) (e : Ending) (w' : World) : Prop :=
  ∃ ρ', e = .returned (.int .i64 s.flE) ∧ DiskAt w' d ρ' s.fl ∧ Chg (Own ρ) w w' ∧ ∀ i, ρ' i ≠ 0 ↔ ρ i ≠ 0
/-- what was loose is sure -/
theorem DP.sureAll {w1 w3 : World} {d : Nat} {ρ : Nat → Nat} {s : DSt} {sv mb cap : Nat} {SV : Nat → Value} {SB : Nat → Nat} {LV : Nat → Value} {LB : Nat → Nat} (h : DP w1 d ρ s sv mb cap SV SB LV LB) (hc : Chg (fun i => i = sv ∨ i = mb) w1 w3)
    (C : Array Value) (hC : Blk w3 sv C 38) (hS : ∀ i, i < s.n → C[i]? = some (if (s.loose i).isSome then LV i else SV i)) (hm : MapAt w3 mb (fun _ => none)) :
    DP w3 d (fun i => if 5 ≤ ρ i ∧ ρ i % 2 = 1 then ρ i - 1 else ρ i) s.sureAll sv mb cap (fun i => if (s.loose i).isSome then LV i else SV i) (fun i => if (s.loose i).isSome then LB i else SB i) LV LB := by
  have out : ∀ i, ρ i ≠ 2 → ρ i ≠ 3 → ¬ (i = sv ∨ i = mb) := fun i h2 h3 x => by
    rcases x with x | x
    · rw [x, h.r2] at h2; exact h2 rfl
    · rw [x, h.r3] at h3; exact h3 rfl
  refine ⟨hc.blk h.b (out d (by rw [h.r1]; decide) (by rw [h.r1]; decide)), h.ok, h.n1, h.n2, h.nc, ⟨C, hC, hS⟩, fun i hi => ?_, ?_, fun k l hk => absurd (show (none : Option (List Int)) = some l from hk) (by simp), ?_, ?_, ?_, fun i hi => ?_, fun k l hk => absurd (show (none : Option (List Int)) = some l from hk) (by simp), fun i hi => ?_⟩
  · show Row w3 (if (s.loose i).isSome then LV i else SV i) (if (s.loose i).isSome then LB i else SB i) ((s.loose i).getD (s.sure i))
    cases hl : s.loose i with
    | none =>
      have h4 := h.r4 i hi
      exact (h.su i hi).chg hc (out _ (by omega) (by omega))
    | some l =>
      have h5 := h.r5 i l hl
      exact (h.lo i l hl).2.chg hc (out _ (by omega) (by omega))
  · rw [show looseM s.sureAll LV = fun _ => none by funext k; unfold looseM DSt.sureAll; split <;> rfl]
    exact hm
  · show (if 5 ≤ ρ d ∧ ρ d % 2 = 1 then ρ d - 1 else ρ d) = 1
    rw [h.r1]; decide
  · show (if 5 ≤ ρ sv ∧ ρ sv % 2 = 1 then ρ sv - 1 else ρ sv) = 2
    rw [h.r2]; decide
  · show (if 5 ≤ ρ mb ∧ ρ mb % 2 = 1 then ρ mb - 1 else ρ mb) = 3
    rw [h.r3]; decide
  · show (if 5 ≤ ρ (if (s.loose i).isSome then LB i else SB i) ∧ ρ (if (s.loose i).isSome then LB i else SB i) % 2 = 1 then ρ (if (s.loose i).isSome then LB i else SB i) - 1 else ρ (if (s.loose i).isSome then LB i else SB i)) = 4 + 2 * i
    cases hl : s.loose i with
    | none =>
      have h4 := h.r4 i hi
      simp only [Option.isSome_none, Bool.false_eq_true, if_false]
      rw [if_neg (by omega)]; exact h4
    | some l =>
      have h5 := h.r5 i l hl
      simp only [Option.isSome_some, if_true]
      rw [if_pos (by omega)]; omega
  · show (if 5 ≤ ρ i ∧ ρ i % 2 = 1 then ρ i - 1 else ρ i) = 0
    rw [h.rz i (by have := hc.size; omega)]; decide
theorem role_iff (ρ : Nat → Nat) (i : Nat) : (if 5 ≤ ρ i ∧ ρ i % 2 = 1 then ρ i - 1 else ρ i) ≠ 0 ↔ ρ i ≠ 0 := by split <;> omega
theorem looseM_some {s : DSt} {LV : Nat → Value} {k : Int} {v : Value} (h : looseM s LV k = some v) : ∃ (n : Nat) (l : List Int), k = n ∧ s.loose n = some l ∧ v = LV n := by
  unfold looseM at h
  by_cases c : 0 ≤ k
  · rw [if_pos c] at h
    cases hl : s.loose k.toNat with
    | none => rw [hl] at h; cases h
    | some l => rw [hl] at h; exact ⟨k.toNat, l, by omega, hl, (Option.some.inj h).symm⟩
  · rw [if_neg c] at h; cases h
/-- the loop of Flush, under way -/
def FlR (w1 : World) (s : DSt) (sv mb r : Nat) (SV LV : Nat → Value) (wr : World) : Prop :=
  ∃ left C, Ranging wr mb r (looseM s LV) left ∧ Blk wr sv C 38 ∧ (∀ i, i < s.n → C[i]? = some (if (s.loose i).isSome = true ∧ left i = false then LV i else SV i)) ∧ Chg (· = sv) w1 wr
theorem flr_end {w1 wr w3 : World} {d : Nat} {ρ : Nat → Nat} {s : DSt} {sv mb cap : Nat} {SV : Nat → Value} {SB : Nat → Nat} {LV : Nat → Value} {LB : Nat → Nat} (h : DP w1 d ρ s sv mb cap SV SB LV LB) {left : Int → Bool} {C : Array Value}
    (hl : ∀ k, left k = false) (hC : Blk wr sv C 38) (hS : ∀ i, i < s.n → C[i]? = some (if (s.loose i).isSome = true ∧ left i = false then LV i else SV i)) (hch : Chg (· = sv) w1 wr) (hm : MapAt w3 mb (fun _ => none)) (hc : Chg (· = mb) wr w3) :
    DiskAt w3 d (fun i => if 5 ≤ ρ i ∧ ρ i % 2 = 1 then ρ i - 1 else ρ i) s.sureAll ∧ Chg (Own ρ) w1 w3 := by
  have ne : ¬ sv = mb := fun x => by have h3 := h.r3; rw [← x, h.r2] at h3; cases h3
  have c1 : Chg (fun i => i = sv ∨ i = mb) w1 w3 := (hch.mono (fun _ _ x => .inl x)).trans (hc.mono (fun _ _ x => .inr x)) (fun _ _ x => x)
  refine ⟨⟨_, _, _, _, _, _, _, h.sureAll c1 C (hc.blk hC ne) (fun i hi => ?_) hm⟩, c1.mono (fun i _ x => ?_)⟩
  · rw [hS i hi]
    simp [hl]
  · rcases x with rfl | rfl
    · show ρ i ≠ 0
      rw [h.r2]; decide
    · show ρ i ≠ 0
      rw [h.r3]; decide
theorem flr_step {w1 wr w2 : World} {d : Nat} {ρ : Nat → Nat} {s : DSt} {sv mb cap : Nat} {SV : Nat → Value} {SB : Nat → Nat} {LV : Nat → Value} {LB : Nat → Nat} (h : DP w1 d ρ s sv mb cap SV SB LV LB) {r : Nat} (hr : w1.heap.size ≤ r) {left : Int → Bool} {C : Array Value} {k : Nat}
    (hC : Blk wr sv C 38) (hS : ∀ i, i < s.n → C[i]? = some (if (s.loose i).isSome = true ∧ left i = false then LV i else SV i)) (hch : Chg (· = sv) w1 wr)
    (hlk : (s.loose k).isSome = true) (hR : Ranging w2 mb r (looseM s LV) (fun j => left j && !(j == (k : Int)))) (hc : Chg (· = r) wr w2) : FlR w1 s sv mb r SV LV (w2.setCell ⟨sv, k, none⟩ (LV k)) := by
  have hsz : sv < w1.heap.size := by obtain ⟨C0, hC0, _⟩ := h.sr; exact blt hC0
  have n1 : ¬ sv = r := by omega
  have n2 : ¬ mb = sv := fun x => by have h3 := h.r3; rw [x, h.r2] at h3; cases h3
  have c2 : Chg (· = sv) w2 (w2.setCell ⟨sv, k, none⟩ (LV k)) := Chg.set (S := (· = sv)) (Chg.refl _ w2) (p := ⟨sv, k, none⟩) (.inl rfl) _
  refine ⟨_, _, hR.chg c2 n2 (by omega), bset (hc.blk hC n1) k (LV k), fun i hi => ?_, (hch.trans (hc.mono (S' := fun i => i = sv ∨ w1.heap.size ≤ i) (fun _ _ x => .inr (by omega))) (fun i hi x => by rcases x with x | x; exact x; omega)).trans c2 (fun _ _ x => x)⟩
  rw [Array.getElem?_setIfInBounds]
  by_cases e : k = i
  · subst e
    have : k < C.size := by
      have := hS k hi
      exact (Array.getElem?_eq_some_iff.1 this).1
    rw [if_pos rfl, if_pos this, hlk]
    simp
  · rw [if_neg e, hS i hi]
    have e' : ¬ ((i : Int) = (k : Int)) := by omega
    by_cases q : (s.loose i).isSome = true ∧ left i = false
    · rw [if_pos q, if_pos ⟨q.1, by rw [q.2]; rfl⟩]
    · rw [if_neg q, if_neg]
      intro q2
      apply q
      refine ⟨q2.1, ?_⟩
      have := q2.2
      simp [e'] at this
      exact this
set_option maxHeartbeats 2000000 in
theorem flush_in (d : Nat) (ρ : Nat → Nat) (s : DSt) (w : World) (h : DiskAt w d ρ s) (e0 : s.num.work.2 = 0) : Calls Try.prog 64 #[.pointer (some ⟨d, 0, none⟩)] w (FlushPost w d ρ s) := by
  obtain ⟨sv, mb, cap, SV, SB, LV, LB, h⟩ := h
  have hwk := work_any d _ _ s.num w h.b h.ok
  rw [show WorkPost w d (.slice (some ⟨sv, 0, none⟩) s.n cap) (.map (some mb)) s.num = fun e w' => e = .returned (.int .i64 0) ∧ DB w' d (.slice (some ⟨sv, 0, none⟩) s.n cap) (.map (some mb)) s.num.work.1 ∧ Chg (· = d) w w' by unfold WorkPost; rw [e0]] at hwk
  have n2 := h.n2
  have nc := h.nc
  have H := Lib.hid (And.intro h e0)
  clear h e0
  go_enter Try.func64, Try.ntmps64
  go_wp2_with fail
  refine hwk.mono ?_
  rintro e w1 ⟨rfl, hb1, hc1⟩
  clear hwk
  have hp := H.out.1.nums _ (DN.work_ok H.out.1.ok) hb1 hc1
  obtain ⟨k0, k1, _, _, _, _⟩ := six hb1
  have hfl : s.fl = DSt.sureAll { s with num := s.num.work.1 } := by unfold DSt.fl; rw [if_pos H.out.2]
  have hle : s.flE = 0 := H.out.2
  obtain ⟨s2, hs2⟩ : ∃ s2 : DSt, s2 = { s with num := s.num.work.1 } := ⟨_, rfl⟩
  rw [← hs2] at hp hfl
  have hn2 : s2.n = s.n := by rw [hs2]
  have hmp := hp.mp
  have hdl : d < w1.heap.size := blt hp.b
  have hds : ¬ d = sv := fun x => by have h3 := hp.r2; rw [← x, hp.r1] at h3; cases h3
  have hcd : Chg (Own ρ) w w1 := hc1.mono (fun i _ hh => by rw [show i = d from hh]; show ρ d ≠ 0; rw [hp.r1]; decide)
  have hdm : ¬ d = mb := fun x => by have h3 := hp.r3; rw [← x, hp.r1] at h3; cases h3
  have hsl : sv < w1.heap.size := by obtain ⟨C0, hC0, _⟩ := hp.sr; exact blt hC0
  have hA : ∀ w2, Chg NoB w1 w2 → Ranging w2 mb w1.heap.size (looseM s2 LV) (fun k => (looseM s2 LV k).isSome) → FlR w1 s2 sv mb w1.heap.size SV LV w2 := by
    intro w2 hc hr
    obtain ⟨C, hC, hS⟩ := hp.sr
    refine ⟨_, C, hr, hc.blk hC (fun x => x), fun i hi => ?_, hc.mono (fun _ _ x => x.elim)⟩
    rw [hS i hi, if_neg]
    rintro ⟨h1, h2⟩
    unfold looseM at h2
    rw [if_pos (by omega), Int.toNat_natCast] at h2
    cases hl : s2.loose i with
    | none => rw [hl] at h1; cases h1
    | some l => rw [hl] at h2; cases h2
  have HP := Lib.hid (And.intro hp (And.intro hcd (And.intro hfl hle)))
  have HA := Lib.hid hA
  clear hA hc1 hb1 hcd hs2 hp hfl hle
  go_wp2_with (first | (at_range; refine range_at rfl _ 67 rfl 3 38 Try.underlying67 mb _ rfl hmp ?_; intro w2 hrg hcr) | go_in)
  go_frame
  have hF := HA.out w2 hcr hrg
  have hc2 := hcr.size
  clear HA hcr hrg hmp
  generalize hr : w1.heap.size = r at *
  have hr0 : w1.heap.size ≤ r := Nat.le_of_eq hr
  clear hr
  go_loopw [4] (fun _ wr => FlR w1 s2 sv mb r SV LV wr) (fun _ wr => wr.rangeLeft mb r)
  case atStart => exact hF
  case round =>
    clear hF
    obtain ⟨left, C, hR, hC, hS, hch⟩ := hrel
    have FIN : (∀ k, left k = false) → ∀ w3, MapAt w3 mb (fun _ => none) → Chg (· = mb) wr w3 → FlushPost w d ρ s (.returned (.int .i64 0)) w3 := fun hl w3 hm hc => by
      obtain ⟨h1, h2⟩ := flr_end HP.out.1 hl hC hS hch hm hc
      exact ⟨_, by rw [HP.out.2.2.2], by rw [HP.out.2.2.1]; exact h1, HP.out.2.1.trans h2 (fun _ _ x => x), fun i => role_iff ρ i⟩
    have ST : ∀ k v w2, left k = true → looseM s2 LV k = some v → Ranging w2 mb r (looseM s2 LV) (fun j => left j && !(j == k)) → Chg (· = r) wr w2 →
        ∃ (kn g cp : Nat), k = kn ∧ v = .slice (some ⟨g, 0, none⟩) 64 cp ∧ kn < s.n ∧ w2.cell? ⟨d, 0, none⟩ = some (Value.slice (some ⟨sv, 0, none⟩) s.n cap) ∧ (∃ x, w2.cell? ⟨sv, kn, none⟩ = some x) ∧ w2.frozen? ⟨sv, kn, none⟩ = false ∧ FlR w1 s2 sv mb r SV LV (w2.setCell ⟨sv, kn, none⟩ v) ∧ (w2.setCell ⟨sv, kn, none⟩ v).rangeLeft mb r = w2.rangeLeft mb r := by
      intro k v w2 hl hv hr2 hc
      obtain ⟨kn, l, rfl, hlo, rfl⟩ := looseM_some hv
      have hkn := (HP.out.1.lo kn l hlo).1
      have hC2 := hc.blk hC (show ¬ sv = r by omega)
      have hms : ¬ mb = sv := fun x => by have h3 := HP.out.1.r3; rw [x, HP.out.1.r2] at h3; cases h3
      obtain ⟨cp, _, hv2, _⟩ := (HP.out.1.lo kn l hlo).2.2.2
      refine ⟨kn, _, cp, rfl, hv2, by omega, hc.cell (hch.cell k0 hds) (show ¬ d = r by omega), ⟨_, (bcell hC2 kn).trans (hS kn hkn)⟩, bfroz hC2 kn, flr_step HP.out.1 hr0 hC hS hch (by rw [hlo]; rfl) hr2 hc, ?_⟩
      have c2 : Chg (· = sv) w2 (w2.setCell ⟨sv, kn, none⟩ (LV kn)) := Chg.set (S := (· = sv)) (Chg.refl _ w2) (p := ⟨sv, kn, none⟩) (.inl rfl) _
      obtain ⟨es, clock, since, seen, c0, hb, _, _, hrr, _⟩ := hr2
      unfold World.rangeLeft
      rw [hb, hrr, c2.blk hb hms, c2.blk hrr (show ¬ r = sv by omega)]
    have d1 := hch.cell k1 hds
    have hmr := hR.map
    have F1 := Lib.hid FIN
    have F2 := Lib.hid ST
    clear FIN ST hC hS hch
    go_wp2_with (first
      | (at_next; refine next_at rfl _ rfl mb r _ _ rfl hR (fun hdone => ?_) (fun k v w' hlk hv hR2 hlt hcn hen => ?_); rotate_left; obtain ⟨kn, g, cp, rfl, rfl, hkn, c0, ⟨cx, c1⟩, c2, hF, hle⟩ := F2.out k v w' hlk hv hR2 hcn; rotate_left)
      | (refine clear_at rfl _ 67 3 38 rfl Try.underlying67 mb _ rfl hmr ?_; intro w3 hm3 hc3)
      | go_in)
    · have fin := F1.out hdone w3 hm3 hc3
      clear F1 F2
      go_ret
      exact fin
    · exact ⟨hF, by rw [hle]; exact hlt⟩
theorem flush_err (d : Nat) (ρ : Nat → Nat) (s : DSt) (w : World) (h : DiskAt w d ρ s) (e0 : s.num.work.2 ≠ 0) : Calls Try.prog 64 #[.pointer (some ⟨d, 0, none⟩)] w (FlushPost w d ρ s) := by
  obtain ⟨sv, mb, cap, SV, SB, LV, LB, h⟩ := h
  have hwk := work_any d _ _ s.num w h.b h.ok
  have post : ∀ w1, DB w1 d (.slice (some ⟨sv, 0, none⟩) s.n cap) (.map (some mb)) s.num.work.1 → Chg (· = d) w w1 → FlushPost w d ρ s (.returned (.int .i64 s.num.work.2)) w1 := by
    intro w1 hb hc
    refine ⟨ρ, rfl, ?_, hc.mono (fun i _ hh => by rw [show i = d from hh]; show ρ d ≠ 0; rw [h.r1]; decide), fun i => Iff.rfl⟩
    unfold DSt.fl
    rw [if_neg e0]; exact ⟨_, _, _, _, _, _, _, h.nums _ (DN.work_ok h.ok) hb hc⟩
  have hne : (s.num.work.2 != 0) = true := by rw [bne_iff_ne]; exact e0
  have PO := Lib.hid post
  have HW := Lib.hid hwk
  clear post e0 h hwk
  go_enter Try.func64, Try.ntmps64
  go_wp2_with fail
  refine (HW.out).mono ?_
  rintro e w1 ⟨rfl, hb, hc⟩
  have P := PO.out w1 hb hc
  clear PO hb hc HW
  generalize s.num.work.2 = E at *
  go_wp2_with fail
  go_ret
  exact P
theorem flush_any (d : Nat) (ρ : Nat → Nat) (s : DSt) (w : World) (h : DiskAt w d ρ s) : Calls Try.prog 64 #[.pointer (some ⟨d, 0, none⟩)] w (FlushPost w d ρ s) := by
  by_cases e0 : s.num.work.2 = 0
  · exact flush_in d ρ s w h e0
  · exact flush_err d ρ s w h e0
theorem flush_nil (w : World) : Calls Try.prog 64 #[.pointer none] w fun e w' => e = .returned (.int .i64 1) ∧ w = w' := by
  go_enter Try.func64, Try.ntmps64
  go_wp2
  go_ret
  exact ⟨rfl, rfl⟩
end Go.Proofs.YtolojkfpokmdkaaRR.Disk

-- XFuse
namespace Go.Proofs.YtolojkfpokmdkaaRR.Disk
open Go.RowKit Go.Proofs.YtolojkfpokmdkaaRR.Hp Go.Proofs.YtolojkfpokmdkaaRR.By
set_option linter.unusedVariables false
set_option linter.unusedSimpArgs false
def DSt.fusing (s : DSt) (a : Int) : DSt := { s with num := { s.num with fuse := if a < 0 then 0 else a } }
def FusePost (w : World) (d : Nat) (ρ : Nat → Nat) (s : DSt) (a : Int) (e : Ending) (w' : World) : Prop := e = .returned (.tuple #[]) ∧ DiskAt w' d ρ (s.fusing a) ∧ Chg (Own ρ) w w'
theorem fuse_any (d : Nat) (ρ : Nat → Nat) (s : DSt) (a : Int) (w : World) (ha : a ≤ 9223372036854775807) (h : DiskAt w d ρ s) : Calls Try.prog 16 #[.pointer (some ⟨d, 0, none⟩), .int .i64 a] w (FusePost w d ρ s a) := by
  obtain ⟨sv, mb, cap, SV, SB, LV, LB, h⟩ := h
  obtain ⟨k0, k1, k2, k3, k4, k5⟩ := six h.b
  have hf := bfroz h.b
  have fin : ∀ x, x = (if a < 0 then 0 else a) → FusePost w d ρ s a (.returned (.tuple #[])) (w.setCell ⟨d, 4, none⟩ (.int .i64 x)) := by
    intro x hx
    refine ⟨rfl, ?_, (chg1 _ _ _ _).mono (fun i _ hh => by rw [show i = d from hh]; show ρ d ≠ 0; rw [h.r1]; decide)⟩
    have b1 : DB (w.setCell ⟨d, 4, none⟩ (.int .i64 x)) d (.slice (some ⟨sv, 0, none⟩) s.n cap) (.map (some mb)) { s.num with fuse := x } := bset h.b 4 _
    have hok := h.ok
    unfold DN.ok at hok
    have := h.nums { s.num with fuse := x } ⟨hok.1, hok.2.1, by simp only; split at hx <;> omega⟩ b1 (chg1 _ _ _ _)
    rw [hx] at this
    rw [hx]
    exact ⟨_, _, _, _, _, _, _, this⟩
  have FI := Lib.hid fin
  clear fin h k0 k1 k2 k3 k5
  by_cases c1 : a < 0
  all_goals
    go_enter Try.func16, Try.ntmps16
    go_wp2_with fail
    go_end0
    exact FI.out _ (by split <;> omega)
theorem fuse_nil (a : Int) (w : World) : Calls Try.prog 16 #[.pointer none, .int .i64 a] w fun e w' => e = .returned (.tuple #[]) ∧ w = w' := by
  go_enter Try.func16, Try.ntmps16
  go_wp2_with fail
  go_end0
  exact ⟨rfl, rfl⟩
set_option maxRecDepth 100000 in
theorem crash_nil (a b : Int) (w : World) : Calls Try.prog 15 #[.pointer none, .int .u64 a, .int .i64 b] w fun e w' => e = .returned (.tuple #[]) ∧ w = w' := by
  go_enter Try.func15, Try.ntmps15
  go_wp2_with fail
  refine bodyPost_ret (results_none rfl _ _ _) rfl ?_
  exact ⟨rfl, rfl⟩
end Go.Proofs.YtolojkfpokmdkaaRR.Disk

-- XCrash
namespace Go.Proofs.YtolojkfpokmdkaaRR.Disk
open Go.RowKit Go.Proofs.YtolojkfpokmdkaaRR.Hp Go.Proofs.YtolojkfpokmdkaaRR.By
set_option linter.unusedVariables false
set_option linter.unusedSimpArgs false
/-- is the j-th of what is loose kept? -/
def keptAt (keep : Int) (j : Nat) : Bool := decide (j < 64) && decide (keep / 2 ^ j % 2 = 1)
/-- which are sure after j of them were looked at, and which one is the last that is kept -/
def crashAt (keep : Int) (L : List Int) : Nat → (Nat → Bool) × Option Nat
  | 0 => (fun _ => false, none)
  | j + 1 =>
    let p := crashAt keep L j
    if keptAt keep j then ((match p.2 with | none => p.1 | some q => fun k => decide (k = q) || p.1 k), some (L.getD j 0).toNat) else p
def cut64 (t : Int) : Nat := (min (max t 0) 64).toNat
def DSt.crash (s : DSt) (keep torn : Int) : DSt :=
  let p := crashAt keep s.looseL s.looseL.length
  { n := s.n
    sure := fun k => if p.1 k then (s.loose k).getD (s.sure k) else if p.2 = some k then ((s.loose k).getD (s.sure k)).take (cut64 torn) ++ (s.sure k).drop (cut64 torn) else s.sure k
    loose := fun _ => none
    num := ⟨0, 0, -1, false⟩ }
def CrashPost (w : World) (d : Nat) (ρ : Nat → Nat) (s : DSt) (keep torn : Int) (e : Ending) (w' : World) : Prop :=
  ∃ ρ', e = .returned (.tuple #[]) ∧ DiskAt w' d ρ' (s.crash keep torn) ∧ Chg (Own ρ) w w' ∧ ∀ i, ρ' i ≠ 0 ↔ ρ i ≠ 0
theorem looseL_x (s : DSt) (j : Nat) (hj : j < s.looseL.length) : ∃ k : Nat, s.looseL.getD j 0 = k ∧ k < s.n ∧ (s.loose k).isSome = true := by
  have hm : s.looseL.getD j 0 ∈ s.looseL := by rw [List.getD_eq_getElem?_getD, List.getElem?_eq_getElem hj]; exact List.getElem_mem hj
  obtain ⟨a, b, c⟩ := (looseL_mem s _).mp hm
  exact ⟨(s.looseL.getD j 0).toNat, by omega, b, c⟩
theorem looseL_up (s : DSt) (i j : Nat) (h : i < j) (hj : j < s.looseL.length) : s.looseL.getD i 0 < s.looseL.getD j 0 := by
  obtain ⟨h1, h2⟩ := looseL_sorted s
  have hi : i < s.looseL.length := by omega
  have a := List.pairwise_iff_getElem.mp h1 i j hi hj h
  have b := List.pairwise_iff_getElem.mp (List.nodup_iff_pairwise_ne.mp h2) i j hi hj h
  rw [List.getD_eq_getElem?_getD, List.getD_eq_getElem?_getD, List.getElem?_eq_getElem hi, List.getElem?_eq_getElem hj]
  simp only [Option.getD_some]
  omega
/-- what holds of it on the way -/
def CA (s : DSt) (p : (Nat → Bool) × Option Nat) (j : Nat) : Prop :=
  (∀ k, p.1 k = true → (s.loose k).isSome = true ∧ ∃ q, p.2 = some q ∧ k < q) ∧ (∀ q, p.2 = some q → (s.loose q).isSome = true ∧ q < s.n ∧ ∀ i, j ≤ i → i < s.looseL.length → (q : Int) < s.looseL.getD i 0)
theorem crashAt_ca (keep : Int) (s : DSt) : ∀ j, j ≤ s.looseL.length → CA s (crashAt keep s.looseL j) j
  | 0, _ => ⟨fun k h => absurd (show false = true from h) (by simp), fun q h => absurd (show (none : Option Nat) = some q from h) (by simp)⟩
  | j + 1, hj => by
    have ih := crashAt_ca keep s j (by omega)
    show CA s (if keptAt keep j then _ else _) _
    by_cases c : keptAt keep j = true
    · rw [if_pos c]
      obtain ⟨x, hx, hx1, hx2⟩ := looseL_x s j (by omega)
      rw [hx, Int.toNat_natCast]
      refine ⟨fun k hk => ?_, fun q hq => ?_⟩
      · cases hl : (crashAt keep s.looseL j).2 with
        | none =>
          rw [hl] at hk
          obtain ⟨_, q, e, _⟩ := ih.1 k hk
          rw [hl] at e; cases e
        | some q =>
          rw [hl] at hk
          have hk' : (decide (k = q) || (crashAt keep s.looseL j).1 k) = true := hk
          obtain ⟨b1, b2, b3⟩ := ih.2 q hl
          have b4 := b3 j (Nat.le_refl _) (by omega)
          rw [hx] at b4
          rcases Bool.or_eq_true _ _ |>.mp hk' with e | e
          · obtain rfl := of_decide_eq_true e
            exact ⟨b1, x, rfl, by omega⟩
          · obtain ⟨a1, q', e', a2⟩ := ih.1 k e
            rw [hl] at e'
            obtain rfl := Option.some.inj e'
            exact ⟨a1, x, rfl, by omega⟩
      · obtain rfl := Option.some.inj (show some x = some q from hq)
        refine ⟨hx2, hx1, fun i hi hi2 => ?_⟩
        have := looseL_up s j i (by omega) hi2
        rw [hx] at this
        exact this
    · rw [if_neg c]
      exact ⟨ih.1, fun q hq => by
        obtain ⟨a, b, c⟩ := ih.2 q hq
        exact ⟨a, b, fun i hi hi2 => c i (by omega) hi2⟩⟩
def lastV : Option Nat → Value
  | none => .int .i64 (-1)
  | some q => .int .i64 q
/-- the loop of Crash, under way -/
def CrR (w1 : World) (s : DSt) (sv : Nat) (SV LV : Nat → Value) (p : (Nat → Bool) × Option Nat) (last : Value) (wr : World) : Prop :=
  last = lastV p.2 ∧ ∃ C, Blk wr sv C 38 ∧ (∀ i, i < s.n → C[i]? = some (if p.1 i = true then LV i else SV i)) ∧ Chg (· = sv) w1 wr
theorem crash_skip {keep : Int} {L : List Int} {j : Nat} (h : keptAt keep j = false) : crashAt keep L (j + 1) = crashAt keep L j := by
  show (if keptAt keep j then _ else _) = _
  rw [h]; rfl
theorem crash_kept {keep : Int} {L : List Int} {j : Nat} (h : keptAt keep j = true) : crashAt keep L (j + 1) = ((match (crashAt keep L j).2 with | none => (crashAt keep L j).1 | some q => fun k => decide (k = q) || (crashAt keep L j).1 k), some (L.getD j 0).toNat) := by
  show (if keptAt keep j then _ else _) = _
  rw [h]; rfl
theorem CrR.first {w1 wr : World} {s : DSt} {sv : Nat} {SV LV : Nat → Value} {keep : Int} {j : Nat} {last : Value} (h : CrR w1 s sv SV LV (crashAt keep s.looseL j) last wr) (hk : keptAt keep j = true) (hj : j < s.looseL.length) (hn : (crashAt keep s.looseL j).2 = none) : CrR w1 s sv SV LV (crashAt keep s.looseL (j + 1)) (.int .i64 (s.looseL.getD j 0)) wr := by
  obtain ⟨x, hx, _⟩ := looseL_x s j hj
  obtain ⟨_, C, h1, h2, h3⟩ := h
  rw [crash_kept hk, hn]
  refine ⟨?_, C, h1, h2, h3⟩
  show _ = Value.int .i64 ((s.looseL.getD j 0).toNat : Int)
  rw [hx, Int.toNat_natCast]
theorem CrR.next {w1 wr : World} {s : DSt} {sv : Nat} {SV LV : Nat → Value} {keep : Int} {j q : Nat} {last : Value} (h : CrR w1 s sv SV LV (crashAt keep s.looseL j) last wr) (hk : keptAt keep j = true) (hj : j < s.looseL.length) (hn : (crashAt keep s.looseL j).2 = some q) : CrR w1 s sv SV LV (crashAt keep s.looseL (j + 1)) (.int .i64 (s.looseL.getD j 0)) (wr.setCell ⟨sv, q, none⟩ (LV q)) := by
  obtain ⟨x, hx, _⟩ := looseL_x s j hj
  obtain ⟨_, C, h1, h2, h3⟩ := h
  rw [crash_kept hk, hn]
  refine ⟨?_, _, bset h1 q (LV q), fun i hi => ?_, Chg.set (S := (· = sv)) h3 (p := ⟨sv, q, none⟩) (.inl rfl) _⟩
  · show _ = Value.int .i64 ((s.looseL.getD j 0).toNat : Int)
    rw [hx, Int.toNat_natCast]
  · show _ = some (if (decide (i = q) || (crashAt keep s.looseL j).1 i) = true then LV i else SV i)
    rw [Array.getElem?_setIfInBounds]
    by_cases e : q = i
    · subst e
      have : q < C.size := (Array.getElem?_eq_some_iff.1 (h2 q hi)).1
      rw [if_pos rfl, if_pos this]
      simp
    · rw [if_neg e, h2 i hi]
      have e' : decide (i = q) = false := decide_eq_false (fun x => e x.symm)
      rw [e', Bool.false_or]
/-- all is sure that is to be -/
theorem DP.crash {w1 w3 : World} {d : Nat} {ρ : Nat → Nat} {s : DSt} {sv mb cap : Nat} {SV : Nat → Value} {SB : Nat → Nat} {LV : Nat → Value} {LB : Nat → Nat} (h : DP w1 d ρ s sv mb cap SV SB LV LB) (keep torn : Int)
    (hc : Chg (Own ρ) w1 w3) (hb : DB w3 d (.slice (some ⟨sv, 0, none⟩) s.n cap) (.map (some mb)) ⟨0, 0, -1, false⟩)
    (C : Array Value) (hC : Blk w3 sv C 38) (hS : ∀ i, i < s.n → C[i]? = some (if (crashAt keep s.looseL s.looseL.length).1 i = true then LV i else SV i)) (hm : MapAt w3 mb (fun _ => none))
    (hR : ∀ i, i < s.n → Row w3 (if (crashAt keep s.looseL s.looseL.length).1 i = true then LV i else SV i) (if (crashAt keep s.looseL s.looseL.length).1 i = true then LB i else SB i) ((s.crash keep torn).sure i)) :
    DP w3 d (fun i => if 5 ≤ ρ i ∧ ρ i % 2 = 1 then ρ i - 1 else ρ i) (s.crash keep torn) sv mb cap (fun i => if (crashAt keep s.looseL s.looseL.length).1 i = true then LV i else SV i) (fun i => if (crashAt keep s.looseL s.looseL.length).1 i = true then LB i else SB i) LV LB := by
  have ca := crashAt_ca keep s s.looseL.length (Nat.le_refl _)
  refine ⟨hb, by unfold DN.ok DSt.crash; simp, h.n1, h.n2, h.nc, ⟨C, hC, hS⟩, hR, ?_, fun k l hk => absurd (show (none : Option (List Int)) = some l from hk) (by simp), ?_, ?_, ?_, fun i hi => ?_, fun k l hk => absurd (show (none : Option (List Int)) = some l from hk) (by simp), fun i hi => ?_⟩
  · rw [show looseM (s.crash keep torn) LV = fun _ => none by funext k; unfold looseM DSt.crash; split <;> rfl]
    exact hm
  · show (if 5 ≤ ρ d ∧ ρ d % 2 = 1 then ρ d - 1 else ρ d) = 1
    rw [h.r1]; decide
  · show (if 5 ≤ ρ sv ∧ ρ sv % 2 = 1 then ρ sv - 1 else ρ sv) = 2
    rw [h.r2]; decide
  · show (if 5 ≤ ρ mb ∧ ρ mb % 2 = 1 then ρ mb - 1 else ρ mb) = 3
    rw [h.r3]; decide
  · show (if 5 ≤ ρ (if (crashAt keep s.looseL s.looseL.length).1 i = true then LB i else SB i) ∧ ρ (if (crashAt keep s.looseL s.looseL.length).1 i = true then LB i else SB i) % 2 = 1 then ρ (if (crashAt keep s.looseL s.looseL.length).1 i = true then LB i else SB i) - 1 else ρ (if (crashAt keep s.looseL s.looseL.length).1 i = true then LB i else SB i)) = 4 + 2 * i
    by_cases c : (crashAt keep s.looseL s.looseL.length).1 i = true
    · obtain ⟨a, _⟩ := ca.1 i c
      cases hl : s.loose i with
      | none => rw [hl] at a; cases a
      | some l =>
        have h5 := h.r5 i l hl
        rw [if_pos c, if_pos (by omega)]; omega
    · have h4 := h.r4 i hi
      rw [if_neg c, if_neg (by omega)]; exact h4
  · show (if 5 ≤ ρ i ∧ ρ i % 2 = 1 then ρ i - 1 else ρ i) = 0
    rw [h.rz i (by have := hc.size; omega)]; decide
end Go.Proofs.YtolojkfpokmdkaaRR.Disk

-- XCrashB
namespace Go.Proofs.YtolojkfpokmdkaaRR.Disk
open Go.RowKit Go.Proofs.YtolojkfpokmdkaaRR.Hp Go.Proofs.YtolojkfpokmdkaaRR.By
set_option linter.unusedVariables false
set_option linter.unusedSimpArgs false
theorem bits_and_u64 (a b : Nat) (ha : a < 18446744073709551616) (hb : b < 18446744073709551616) : Go.bits .and .u64 a b = ((a &&& b : Nat) : Int) := by
  have ha' : a % 2 ^ 64 = a := Nat.mod_eq_of_lt (by simpa using ha)
  have hb' : b % 2 ^ 64 = b := Nat.mod_eq_of_lt (by simpa using hb)
  show IntKind.u64.wrap ((BitVec.ofInt 64 a &&& BitVec.ofInt 64 b).toNat : Int) = _
  simp only [BitVec.ofInt_natCast, BitVec.toNat_and, BitVec.toNat_ofNat, ha', hb']
  have : a &&& b ≤ b := Nat.and_le_right
  exact IntWalk.u64_in _ ⟨Int.natCast_nonneg _, by omega⟩
theorem bit_is (keep : Int) (j : Nat) (k0 : 0 ≤ keep) (k1 : keep < 18446744073709551616) : bits BinOp.and IntKind.u64 (keep / 2 ^ j) 1 = keep / 2 ^ j % 2 := by
  have h0 : 0 ≤ keep / 2 ^ j := Int.ediv_nonneg k0 (Int.pow_nonneg (by decide))
  have h1 : keep / 2 ^ j ≤ keep := Int.ediv_le_self _ k0
  generalize keep / 2 ^ j = y at *
  obtain ⟨a, rfl⟩ := Int.eq_ofNat_of_zero_le h0
  have := bits_and_u64 a 1 (by omega) (by decide)
  rw [show ((1 : Nat) : Int) = 1 from rfl] at this
  rw [this, Nat.and_one_is_mod]
  omega
theorem CrR.drew {w1 wr : World} {s : DSt} {sv : Nat} {SV LV : Nat → Value} {p : (Nat → Bool) × Option Nat} {last : Value} (h : CrR w1 s sv SV LV p last wr) : CrR w1 s sv SV LV p last wr.drew := by
  obtain ⟨a, C, h1, h2, h3⟩ := h
  exact ⟨a, C, h1, h2, h3.drew⟩
/-- the first bytes of one sector over those of another -/
theorem copy_cut {w : World} {v1 v2 : Value} {g1 g2 : Nat} {l1 l2 : List Int} (h1 : Row w v1 g1 l1) (h2 : Row w v2 g2 l2) (t : Nat) (ht : t ≤ 64) (c1 c2 : Nat) :
    ∃ w', (∀ ty, (Builtin.copy_ #[38, 38] ty #[.slice (some ⟨g1, 0, none⟩) t c1, .slice (some ⟨g2, 0, none⟩) 64 c2]).run Try.prog w = .ok (.int .i64 t) w') ∧ Row w' v1 g1 (l2.take t ++ l1.drop t) ∧ Chg (· = g1) w w' := by
  obtain ⟨a1, b1, k1, C1, e1, f1, hb1, r1, q1⟩ := h1
  obtain ⟨a2, b2, k2, C2, e2, f2, hb2, r2, q2⟩ := h2
  have hlen : ((l2.take t).map (Value.int .u8)).length = t := by simp; omega
  have hrun := fun ty => run_copy_row (P := Try.prog) w 38 38 ty 5 g1 0 t c1 ⟨g2, 0, none⟩ 64 c2 C1 5 ((l2.take t).map (Value.int .u8)) Try.underlying38 sz8 hb1 (by rw [hlen]; exact (Nat.min_eq_right ht).symm)
    (fun j v hj => by
      rw [add0, bcell hb2]
      rw [List.getElem?_map, List.getElem?_take] at hj
      by_cases c : j < t
      · rw [if_pos c, List.getElem?_eq_getElem (by omega)] at hj
        rw [q2 j (by omega), List.getD_eq_getElem?_getD, List.getElem?_eq_getElem (by omega)]
        exact hj
      · rw [if_neg c] at hj; cases hj)
    (by rw [hlen]; omega) (fun v hv => by
      obtain ⟨x, _, rfl⟩ := List.mem_map.mp hv
      rfl)
  refine ⟨_, fun ty => (by rw [hrun ty, hlen]; rfl), ⟨?_, ?_, k1, _, e1, f1, setRow_heap w g1 C1 _ 5 _ hb1, ?_, ?_⟩, ⟨rfl, rfl, rfl, by simp [World.setRow], fun k _ hk => setRow_other w g1 k _ hk⟩⟩
  · rw [List.length_append, List.length_take, List.length_drop]; omega
  · intro x hx
    rcases List.mem_append.mp hx with h | h
    · exact b2 x (List.mem_of_mem_take h)
    · exact b1 x (List.mem_of_mem_drop h)
  · simp; omega
  · intro j hj
    simp only [List.take_zero, List.nil_append, Nat.zero_add, List.getElem?_toArray]
    rw [List.getD_eq_getElem?_getD]
    by_cases c : j < t
    · rw [List.getElem?_append_left (by rw [hlen]; exact c), List.getElem?_append_left (by rw [List.length_take]; omega), List.getElem?_map, List.getElem?_take, if_pos c, List.getElem?_eq_getElem (by omega)]
      rfl
    · rw [List.getElem?_append_right (by rw [hlen]; omega), List.getElem?_append_right (by rw [List.length_take]; omega), hlen, List.length_take, List.getElem?_drop, List.getElem?_drop, Array.getElem?_toList]
      rw [show t + (j - t) = j by omega, show t + (j - min t l2.length) = j by omega, q1 j hj, List.getD_eq_getElem?_getD]
/-- before the map is cleared -/
def Rdy (w1 : World) (d : Nat) (ρ : Nat → Nat) (s : DSt) (sv mb cap : Nat) (SV : Nat → Value) (SB : Nat → Nat) (LV : Nat → Value) (LB : Nat → Nat) (keep torn : Int) (w2 : World) : Prop :=
  Chg (Own ρ) w1 w2 ∧ DB w2 d (.slice (some ⟨sv, 0, none⟩) s.n cap) (.map (some mb)) s.num ∧ (∃ C, Blk w2 sv C 38 ∧ ∀ i, i < s.n → C[i]? = some (if (crashAt keep s.looseL s.looseL.length).1 i = true then LV i else SV i)) ∧
  MapAt w2 mb (looseM s LV) ∧ ∀ i, i < s.n → Row w2 (if (crashAt keep s.looseL s.looseL.length).1 i = true then LV i else SV i) (if (crashAt keep s.looseL s.looseL.length).1 i = true then LB i else SB i) ((s.crash keep torn).sure i)
theorem Rdy.fin {w w1 w2 w3 : World} {d : Nat} {ρ : Nat → Nat} {s : DSt} {sv mb cap : Nat} {SV : Nat → Value} {SB : Nat → Nat} {LV : Nat → Value} {LB : Nat → Nat} {keep torn : Int} (h : DP w1 d ρ s sv mb cap SV SB LV LB) (h0 : Chg NoB w w1) (hr : Rdy w1 d ρ s sv mb cap SV SB LV LB keep torn w2) (hm : MapAt w3 mb (fun _ => none)) (hc : Chg (· = mb) w2 w3) :
    (∃ a b c e, w3.cell? ⟨d, 2, none⟩ = some a ∧ w3.cell? ⟨d, 3, none⟩ = some b ∧ w3.cell? ⟨d, 4, none⟩ = some c ∧ w3.cell? ⟨d, 5, none⟩ = some e) ∧ (∀ i, w3.frozen? ⟨d, i, none⟩ = false) ∧
    CrashPost w d ρ s keep torn (.returned (.tuple #[])) ((((w3.setCell ⟨d, 2, none⟩ (.int .i64 0)).setCell ⟨d, 3, none⟩ (.int .i64 0)).setCell ⟨d, 4, none⟩ (.int .i64 (-1))).setCell ⟨d, 5, none⟩ (.bool false)) := by
  obtain ⟨hc2, hb, ⟨C, hC, hS⟩, hmp, hR⟩ := hr
  have ne : ∀ i m, ρ i = m → m ≠ 3 → ¬ i = mb := fun i m hm hne x => by rw [x, h.r3] at hm; omega
  have nd : ∀ i m, ρ i = m → m ≠ 1 → ¬ i = d := fun i m hm hne x => by rw [x, h.r1] at hm; omega
  have b3 := hc.blk hb (ne d 1 h.r1 (by decide))
  have x1 : DB (w3.setCell ⟨d, 2, none⟩ (.int .i64 0)) d (.slice (some ⟨sv, 0, none⟩) s.n cap) (.map (some mb)) { s.num with first := 0 } := bset b3 2 _
  have x2 : DB ((w3.setCell ⟨d, 2, none⟩ (.int .i64 0)).setCell ⟨d, 3, none⟩ (.int .i64 0)) d (.slice (some ⟨sv, 0, none⟩) s.n cap) (.map (some mb)) { s.num with first := 0, fail := 0 } := bset x1 3 _
  have x3 : DB (((w3.setCell ⟨d, 2, none⟩ (.int .i64 0)).setCell ⟨d, 3, none⟩ (.int .i64 0)).setCell ⟨d, 4, none⟩ (.int .i64 (-1))) d (.slice (some ⟨sv, 0, none⟩) s.n cap) (.map (some mb)) { s.num with first := 0, fail := 0, fuse := -1 } := bset x2 4 _
  have x4 : DB ((((w3.setCell ⟨d, 2, none⟩ (.int .i64 0)).setCell ⟨d, 3, none⟩ (.int .i64 0)).setCell ⟨d, 4, none⟩ (.int .i64 (-1))).setCell ⟨d, 5, none⟩ (.bool false)) d (.slice (some ⟨sv, 0, none⟩) s.n cap) (.map (some mb)) ⟨0, 0, -1, false⟩ := bset x3 5 _
  have c4 : Chg (· = d) w3 ((((w3.setCell ⟨d, 2, none⟩ (.int .i64 0)).setCell ⟨d, 3, none⟩ (.int .i64 0)).setCell ⟨d, 4, none⟩ (.int .i64 (-1))).setCell ⟨d, 5, none⟩ (.bool false)) := chg2 (chg2 (chg2 (chg1 _ _ _ _) _ _) _ _) _ _
  obtain ⟨_, _, k2, k3, k4, k5⟩ := six b3
  have oM : Chg (Own ρ) w2 w3 := hc.mono (fun i _ x => by rw [show i = mb from x]; show ρ mb ≠ 0; rw [h.r3]; decide)
  have oD := c4.mono (S' := Own ρ) (fun i _ x => by rw [show i = d from x]; show ρ d ≠ 0; rw [h.r1]; decide)
  have ca := crashAt_ca keep s s.looseL.length (Nat.le_refl _)
  have hall := (hc2.trans oM (fun _ _ x => x)).trans oD (fun _ _ x => x)
  have hp := h.crash keep torn hall x4 C (c4.blk (hc.blk hC (ne sv 2 h.r2 (by decide))) (nd sv 2 h.r2 (by decide))) hS (hm.chg c4 (nd mb 3 h.r3 (by decide))) (fun i hi => by
    have hρ : ∃ m, ρ (if (crashAt keep s.looseL s.looseL.length).1 i = true then LB i else SB i) = m ∧ 4 ≤ m := by
      by_cases c : (crashAt keep s.looseL s.looseL.length).1 i = true
      · obtain ⟨a, _⟩ := ca.1 i c
        cases hl : s.loose i with
        | none => rw [hl] at a; cases a
        | some l => exact ⟨5 + 2 * i, by rw [if_pos c]; exact h.r5 i l hl, by omega⟩
      · exact ⟨4 + 2 * i, by rw [if_neg c]; exact h.r4 i hi, by omega⟩
    obtain ⟨m, e1, e2⟩ := hρ
    exact ((hR i hi).chg hc (ne _ m e1 (by omega))).chg c4 (nd _ m e1 (by omega)))
  exact ⟨⟨_, _, _, _, k2, k3, k4, k5⟩, bfroz b3, _, rfl, ⟨_, _, _, _, _, _, _, hp⟩, (h0.mono (S' := Own ρ) (fun _ _ x => x.elim)).trans hall (fun _ _ x => x), fun i => role_iff ρ i⟩
theorem rdy_none {w1 wr : World} {d : Nat} {ρ : Nat → Nat} {s : DSt} {sv mb cap : Nat} {SV : Nat → Value} {SB : Nat → Nat} {LV : Nat → Value} {LB : Nat → Nat} {keep torn : Int} {last : Value} (h : DP w1 d ρ s sv mb cap SV SB LV LB) (hr : CrR w1 s sv SV LV (crashAt keep s.looseL s.looseL.length) last wr)
    (hn : (crashAt keep s.looseL s.looseL.length).2 = none) : Rdy w1 d ρ s sv mb cap SV SB LV LB keep torn wr := by
  obtain ⟨_, C, hC, hS, hch⟩ := hr
  have ca := crashAt_ca keep s s.looseL.length (Nat.le_refl _)
  have al : ∀ k, (crashAt keep s.looseL s.looseL.length).1 k = false := fun k => by
    cases e : (crashAt keep s.looseL s.looseL.length).1 k with
    | false => rfl
    | true =>
      obtain ⟨_, q, e2, _⟩ := ca.1 k e
      rw [hn] at e2; cases e2
  have ns : ∀ i m, ρ i = m → m ≠ 2 → ¬ i = sv := fun i m hm hne x => by rw [x, h.r2] at hm; omega
  refine ⟨hch.mono (fun i _ x => by rw [show i = sv from x]; show ρ sv ≠ 0; rw [h.r2]; decide), hch.blk h.b (ns d 1 h.r1 (by decide)), ⟨C, hC, hS⟩, h.mp.chg hch (ns mb 3 h.r3 (by decide)), fun i hi => ?_⟩
  have e : (s.crash keep torn).sure i = s.sure i := by
    unfold DSt.crash
    simp only [al, hn]
    simp
  rw [e, al]
  exact (h.su i hi).chg hch (ns _ _ (h.r4 i hi) (by omega))
theorem rdy_some {w1 wr w2 : World} {d : Nat} {ρ : Nat → Nat} {s : DSt} {sv mb cap : Nat} {SV : Nat → Value} {SB : Nat → Nat} {LV : Nat → Value} {LB : Nat → Nat} {keep torn : Int} {last : Value} {q : Nat} {lq : List Int} (h : DP w1 d ρ s sv mb cap SV SB LV LB) (hr : CrR w1 s sv SV LV (crashAt keep s.looseL s.looseL.length) last wr)
    (hn : (crashAt keep s.looseL s.looseL.length).2 = some q) (hl : s.loose q = some lq) (hR : Row w2 (SV q) (SB q) (lq.take (cut64 torn) ++ (s.sure q).drop (cut64 torn))) (hc : Chg (· = SB q) wr w2) : Rdy w1 d ρ s sv mb cap SV SB LV LB keep torn w2 := by
  obtain ⟨_, C, hC, hS, hch⟩ := hr
  have ca := crashAt_ca keep s s.looseL.length (Nat.le_refl _)
  have hq := (ca.2 q hn).2.1
  have aq : (crashAt keep s.looseL s.looseL.length).1 q = false := by
    cases e : (crashAt keep s.looseL s.looseL.length).1 q with
    | false => rfl
    | true =>
      obtain ⟨_, q', e2, e3⟩ := ca.1 q e
      rw [hn] at e2
      have := Option.some.inj e2
      omega
  have ns : ∀ i m, ρ i = m → m ≠ 2 → ¬ i = sv := fun i m hm hne x => by rw [x, h.r2] at hm; omega
  have h4 := h.r4 q hq
  have nq : ∀ i m, ρ i = m → m ≠ 4 + 2 * q → ¬ i = SB q := fun i m hm hne x => by rw [x, h4] at hm; omega
  have o1 : Chg (Own ρ) w1 wr := hch.mono (fun i _ x => by rw [show i = sv from x]; show ρ sv ≠ 0; rw [h.r2]; decide)
  have o2 : Chg (Own ρ) wr w2 := hc.mono (fun i _ x => by rw [show i = SB q from x]; show ρ (SB q) ≠ 0; rw [h4]; omega)
  refine ⟨o1.trans o2 (fun _ _ x => x), hc.blk (hch.blk h.b (ns d 1 h.r1 (by decide))) (nq d 1 h.r1 (by omega)), ⟨C, hc.blk hC (nq sv 2 h.r2 (by omega)), hS⟩, (h.mp.chg hch (ns mb 3 h.r3 (by decide))).chg hc (nq mb 3 h.r3 (by omega)), fun i hi => ?_⟩
  by_cases c : (crashAt keep s.looseL s.looseL.length).1 i = true
  · obtain ⟨a, _⟩ := ca.1 i c
    obtain ⟨l, hli⟩ := Option.isSome_iff_exists.mp a
    have e : (s.crash keep torn).sure i = l := by
      unfold DSt.crash
      simp only [c]
      rw [hli]; rfl
    rw [e, if_pos c, if_pos c]
    have h5 := h.r5 i l hli
    exact ((h.lo i l hli).2.chg hch (ns _ _ h5 (by omega))).chg hc (nq _ _ h5 (by omega))
  · rw [if_neg c, if_neg c]
    by_cases e : i = q
    · subst e
      have e2 : (s.crash keep torn).sure i = lq.take (cut64 torn) ++ (s.sure i).drop (cut64 torn) := by
        unfold DSt.crash
        simp only [aq, hn, hl]
        simp
      rw [e2]; exact hR
    · have e2 : (s.crash keep torn).sure i = s.sure i := by
        unfold DSt.crash
        have : ¬ (some q = some i) := fun x => e (Option.some.inj x).symm
        simp only [Bool.not_eq_true] at c
        simp only [c, hn]
        rw [if_neg this]; rfl
      rw [e2]
      have h4i := h.r4 i hi
      exact ((h.su i hi).chg hch (ns _ _ h4i (by omega))).chg hc (nq _ _ h4i (by omega))
set_option maxRecDepth 100000 in
set_option maxHeartbeats 4000000 in
theorem crash_any (d : Nat) (ρ : Nat → Nat) (s : DSt) (keep torn : Int) (w : World) (k0 : 0 ≤ keep) (k1 : keep < 18446744073709551616) (h : DiskAt w d ρ s) : Calls Try.prog 15 #[.pointer (some ⟨d, 0, none⟩), .int .u64 keep, .int .i64 torn] w (CrashPost w d ρ s keep torn) := by
  have hlo := loose_any d ρ s w h
  obtain ⟨sv, mb, cap, SV, SB, LV, LB, h⟩ := h
  have n2 := h.n2
  have nc := h.nc
  have H := Lib.hid h
  clear h
  go_enter Try.func15, Try.ntmps15
  go_wp2_with fail
  refine hlo.mono ?_
  rintro e w1 ⟨v, rfl, hown, hC1⟩
  clear hlo
  have hll : s.looseL.length ≤ 4096 := by
    have : s.looseL.length ≤ s.n := by
      unfold DSt.looseL
      rw [List.length_map]
      exact Nat.le_trans (List.length_filter_le _ _) (by simp)
    omega
  obtain ⟨A, c, rfl, _, hlc, hrd, hoff⟩ := own_rd hown (by omega)
  have hp := H.out.chg hC1 (fun _ _ x => x)
  have d0 : ¬ d = sv := fun x => by have h3 := hp.r2; rw [← x, hp.r1] at h3; cases h3
  have hsl : sv < w.heap.size := by obtain ⟨C0, hC0, _⟩ := H.out.sr; exact blt hC0
  have HP := Lib.hid (And.intro hp (And.intro hC1 (And.intro hoff hsl)))
  have hcr : CrR w1 s sv SV LV (crashAt keep s.looseL 0) (.int .i64 (-1)) w1 := by
    obtain ⟨C, hC, hS⟩ := hp.sr
    exact ⟨rfl, C, hC, hS, Chg.refl _ _⟩
  clear hp hown hC1 H hoff hsl
  generalize hL : s.looseL = L at *
  go_wp2_with fail
  go_loopw [6, 14] (fun last i wr => ∃ j : Nat, j ≤ L.length ∧ i = .int .i64 j ∧ CrR w1 s sv SV LV (crashAt keep L j) last wr) (fun _ i wr => (L.length - intOf i).toNat)
  case atStart => exact ⟨0, by omega, rfl, hcr⟩
  case round =>
    clear hcr
    obtain ⟨j, hj, rfl, hcr⟩ := hrel
    by_cases hlt : j < L.length
    · obtain ⟨ad, rfl, hcell⟩ := hrd.at_ j hlt
      obtain ⟨x, hx, hx1, hx2⟩ := looseL_x s j (by rw [hL]; exact hlt)
      rw [hL] at hx
      rw [hx] at hcell
      have hcw : wr.cell? (ad.add j) = some (.int .i64 x) := hcr.2.elim fun C hC => hC.2.2.cell hcell (fun e => by
        have := HP.out.2.2.1 ad rfl
        have hs := HP.out.2.2.2
        have e' : (ad.add j).block = ad.block := by unfold Addr.add; split <;> rfl
        rw [e'] at e
        exact this (by rw [e]; exact hs))
      by_cases c64 : 64 ≤ j
      · have hk : keptAt keep j = false := by unfold keptAt; simp; omega
        have nx := hcr
        rw [← crash_skip (L := L) hk] at nx
        have N := Lib.hid nx
        obtain ⟨rfl, _⟩ := hcr
        generalize lastV (crashAt keep L j).2 = last at *
        clear nx
        go_wp2_with fail
        exact ⟨⟨j + 1, by omega, rfl, N.out⟩, by simp [intOf]; omega⟩
      · have c64' : decide (64 ≤ (j : Int)) = false := by simp; omega
        have hbit := bit_is keep j k0 k1
        by_cases hk : keptAt keep j = false
        · have nx := hcr
          rw [← crash_skip (L := L) hk] at nx
          have hbb : (bits BinOp.and IntKind.u64 (keep / 2 ^ j) 1 == 0) = true := by
            rw [hbit]
            unfold keptAt at hk
            rw [decide_eq_true (by omega), Bool.true_and, decide_eq_false_iff_not] at hk
            rw [beq_iff_eq]
            omega
          have N := Lib.hid nx
          obtain ⟨rfl, _⟩ := hcr
          generalize lastV (crashAt keep L j).2 = last at *
          clear nx hbit
          go_wp2_with fail
          exact ⟨⟨j + 1, by omega, rfl, N.out⟩, by simp [intOf]; omega⟩
        · have hk : keptAt keep j = true := by simpa using hk
          have hbb : (bits BinOp.and IntKind.u64 (keep / 2 ^ j) 1 == 0) = false := by
            rw [hbit]
            unfold keptAt at hk
            rw [decide_eq_true (by omega), Bool.true_and, decide_eq_true_eq] at hk
            rw [hk]; rfl
          clear hbit
          have hcr2 := hcr
          rw [← hL] at hcr2
          cases hq : (crashAt keep L j).2 with
          | none =>
            have N := Lib.hid (hcr2.first hk (by rw [hL]; exact hlt) (by rw [hL]; exact hq))
            clear hcr2
            rw [hL, hx] at N
            obtain ⟨rfl, _⟩ := hcr
            rw [hq]
            simp only [lastV]
            go_wp2_with fail
            exact ⟨⟨j + 1, by omega, rfl, N.out⟩, by simp [intOf]; omega⟩
          | some q =>
            have N := hcr2.next hk (by rw [hL]; exact hlt) (by rw [hL]; exact hq)
            rw [hL, hx] at N
            have ca := (crashAt_ca keep s j (by rw [hL]; exact hj)).2 q (by rw [hL]; exact hq)
            obtain ⟨q1, q2, _⟩ := ca
            obtain ⟨rfl, C, hC, hS, hch⟩ := hcr
            rw [hq]
            simp only [lastV]
            have hp := HP.out.1
            obtain ⟨lq, hlq⟩ := Option.isSome_iff_exists.mp q1
            obtain ⟨cq, Cq, hvq, _⟩ := (hp.lo q lq hlq).2.2.2
            obtain ⟨m0, m1, _⟩ := six hp.b
            have c0 := hch.cell m0 d0
            have c1 := hch.cell m1 d0
            have hms : ¬ mb = sv := fun e => by have h3 := hp.r3; rw [e, hp.r2] at h3; cases h3
            have hlk := fun cc => run_lookup_some (P := Try.prog) 67 3 38 Try.underlying67 Try.underlying3 (hp.mp.chg (hch.drew) hms) q (LV q) (by unfold looseM; rw [if_pos (by omega), Int.toNat_natCast, hlq]; rfl) cc
            obtain ⟨cx, csq⟩ : ∃ x, wr.cell? ⟨sv, q, none⟩ = some x := ⟨_, (bcell hC q).trans (hS q q2)⟩
            have fsq := bfroz hC q
            clear hcr2
            rw [hvq] at hlk N
            replace hlk := hlk false
            simp only [Bool.false_eq_true, if_false] at hlk
            have NN := Lib.hid N
            clear N hp hS hC hch hvq m0 m1
            go_wp2_with fail
            go_region
            go_wp2_with fail
            exact ⟨⟨j + 1, by omega, rfl, NN.out.drew⟩, by simp [intOf]; omega⟩
    · obtain rfl : j = L.length := by omega
      have hcr2 := hcr
      rw [← hL] at hcr2
      have hp := HP.out.1
      cases hq : (crashAt keep L L.length).2 with
      | none =>
        have R := rdy_none (torn := torn) hp hcr2 (by rw [hL]; exact hq)
        have e6 := hcr.1
        rw [hq] at e6
        subst e6
        simp only [lastV]
        obtain ⟨m0, m1, _⟩ := six R.2.1
        have hmm := R.2.2.2.1
        have FN := Lib.hid (fun w3 => Rdy.fin (w3 := w3) hp HP.out.2.1 R)
        clear R hp hcr hcr2 m0
        go_wp2_with (first
          | (refine clear_at rfl _ 67 3 38 rfl Try.underlying67 mb _ rfl hmm ?_; intro w3 hm3 hc3; obtain ⟨⟨x2, x3, x4, x5, y2, y3, y4, y5⟩, hfz, hpost⟩ := FN.out w3 hm3 hc3)
          | go_in)
        go_end0
        exact hpost
      | some q =>
        have ca := crashAt_ca keep s s.looseL.length (Nat.le_refl _)
        have hq' : (crashAt keep s.looseL s.looseL.length).2 = some q := by rw [hL]; exact hq
        obtain ⟨q1, q2, _⟩ := ca.2 q hq'
        have aq : (crashAt keep L L.length).1 q = false := by
          cases e : (crashAt keep L L.length).1 q with
          | false => rfl
          | true =>
            obtain ⟨_, q', e2, e3⟩ := ca.1 q (by rw [hL]; exact e)
            rw [hq'] at e2
            have := Option.some.inj e2
            omega
        obtain ⟨lq, hlq⟩ := Option.isSome_iff_exists.mp q1
        have e6 := hcr.1
        rw [hq] at e6
        subst e6
        simp only [lastV]
        obtain ⟨_, C, hC, hS, hch⟩ := hcr
        have hms : ¬ mb = sv := fun e => by have h3 := hp.r3; rw [e, hp.r2] at h3; cases h3
        have hlk := run_lookup_some (P := Try.prog) 67 3 38 Try.underlying67 Try.underlying3 (hp.mp.chg (hch.drew) hms) q (LV q) (by unfold looseM; rw [if_pos (by omega), Int.toNat_natCast, hlq]; rfl) false
        simp only [Bool.false_eq_true, if_false] at hlk
        obtain ⟨m0, m1, _⟩ := six hp.b
        have c0 := hch.cell m0 d0
        have c1 := hch.cell m1 d0
        have csq := (bcell hC q).trans (hS q q2)
        rw [aq] at csq
        simp only [Bool.false_eq_true, if_false] at csq
        have h4 := hp.r4 q q2
        have h5 := hp.r5 q lq hlq
        have h2 := hp.r2
        have R1 := ((hp.su q q2).chg hch (fun e => by rw [e, h2] at h4; omega)).chg ((Chg.refl NoB wr).drew) (fun x => x)
        have R2 := ((hp.lo q lq hlq).2.chg hch (fun e => by rw [e, h2] at h5; omega)).chg ((Chg.refl NoB wr).drew) (fun x => x)
        obtain ⟨ks, _, hsv, _⟩ := R1.2.2
        obtain ⟨kl, _, hlv, _⟩ := R2.2.2
        rw [hsv] at csq
        rw [hlv] at hlk
        have fin : ∀ w2, Row w2 (SV q) (SB q) (lq.take (cut64 torn) ++ (s.sure q).drop (cut64 torn)) → Chg (· = SB q) wr w2 → w2.cell? ⟨d, 0, none⟩ = some (.slice (some ⟨sv, 0, none⟩) s.n cap) ∧ w2.cell? ⟨d, 1, none⟩ = some (.map (some mb)) ∧ MapAt w2 mb (looseM s LV) ∧ ∀ w3, MapAt w3 mb (fun _ => none) → Chg (· = mb) w2 w3 → _ :=
          fun w2 hR hc => by
            have R := rdy_some (torn := torn) hp hcr2 hq' hlq hR hc
            obtain ⟨z0, z1, _⟩ := six R.2.1
            exact ⟨z0, z1, R.2.2.2.1, fun w3 => Rdy.fin (w3 := w3) hp HP.out.2.1 R⟩
        have FN := Lib.hid fin
        have hcp := fun t ht => copy_cut R1 R2 t ht ks kl
        have HC := Lib.hid hcp
        clear hcp fin hp hcr2 R1 R2 hsv hlv hC hS hch ca m0 m1
        obtain ⟨w2, hcp, hR, hc⟩ := HC.out (cut64 torn) (by unfold cut64; omega)
        have hc' : Chg (· = SB q) wr w2 := ((Chg.refl _ wr).drew).trans hc (fun _ _ x => x)
        obtain ⟨z0, z1, hmm, hf⟩ := FN.out w2 hR hc'
        have F2 := Lib.hid hf
        unfold cut64 at hcp
        clear hR hc hc' FN HC hf
        go_wp2_with fail
        go_region
        go_wp2_with (first
          | (refine clear_at rfl _ 67 3 38 rfl Try.underlying67 mb _ rfl hmm ?_; intro w3 hm3 hc3; obtain ⟨⟨x2, x3, x4, x5, y2, y3, y4, y5⟩, hfz, hpost⟩ := F2.out w3 hm3 hc3)
          | go_in)
        go_end0
        exact hpost
end Go.Proofs.YtolojkfpokmdkaaRR.Disk

-- XCalm
namespace Go.Proofs.YtolojkfpokmdkaaRR.Disk
open Go.RowKit Go.Proofs.YtolojkfpokmdkaaRR.Hp Go.Proofs.YtolojkfpokmdkaaRR.By
set_option linter.unusedVariables false
set_option linter.unusedSimpArgs false
def Calm (s : DSt) : Prop := s.num = ⟨0, 0, -1, false⟩
theorem calm_io {s : DSt} (h : Calm s) (n : Int) : s.io n = s := by
  unfold DSt.io
  split
  · have : s.num.work.1 = s.num := by rw [work_calm _ h]
    rw [this]
  · rfl
theorem calm_ioE {s : DSt} (h : Calm s) {n : Int} (h0 : 0 ≤ n) (h1 : n < s.n) : s.ioE n = 0 := by rw [ioE_in h0 h1, work_calm _ h]
theorem calm_wrE {s : DSt} (h : Calm s) {n : Int} (h0 : 0 ≤ n) (h1 : n < s.n) {len : Nat} (hl : len = 64) : s.wrE n len = 0 := by unfold DSt.wrE; rw [if_pos hl, calm_ioE h h0 h1]
theorem calm_wr {s : DSt} (h : Calm s) {n : Int} (h0 : 0 ≤ n) (h1 : n < s.n) {l : List Int} (hl : l.length = 64) : s.wr n l = s.put n.toNat l := by
  unfold DSt.wr; rw [if_pos hl, if_pos (calm_ioE h h0 h1), calm_io h]
theorem get_put {s : DSt} (n : Nat) (l : List Int) : (s.put n l).get n = l := by
  unfold DSt.get DSt.put; simp
theorem get_put_ne {s : DSt} (n : Nat) (l : List Int) (k : Int) (h : k.toNat ≠ n) : (s.put n l).get k = s.get k := by
  unfold DSt.get DSt.put; simp [h]
theorem ioE_out {s : DSt} {n : Int} (h : ¬ (0 ≤ n ∧ n < s.n)) : s.ioE n = 1 := if_neg h
theorem set_arr (n i : Nat) (v : Int) : (Array.replicate n (Value.int .u8 0)).setIfInBounds i (.int .u8 v) = (((List.replicate n (0 : Int)).set i v).map (Value.int .u8)).toArray := by
  rw [← List.toArray_replicate, List.setIfInBounds_toArray, List.map_set, List.map_replicate]
theorem calm_new (n : Nat) : Calm (DSt.new n) := rfl
theorem calm_put {s : DSt} (h : Calm s) (n : Nat) (l : List Int) : Calm (s.put n l) := h
def True1 (w0 : World) (e : Ending) (w' : World) : Prop := e = .returned (.bool true) ∧ Chg NoB w0 w'
theorem True1.row {W : World} {e : Ending} {w' : World} (h : True1 W e w') : e = .returned (.bool true) ∧ Below W.heap.size W w' :=
  ⟨h.1, h.2.below (Nat.le_refl _) (fun i hh => hh.elim)⟩
/-- a buffer of 64 bytes, made -/
theorem make64 (w : World) : (Instr.makeSlice 38 (.int .i64 64) (.int .i64 64)).run Try.prog w = .ok (.slice (some ⟨w.heap.size, 0, none⟩) 64 64) (w.alloc (.cells (Array.replicate 64 (.int .u8 0)) 5)) :=
  run_make1 (P := Try.prog) 38 5 (.int .u8 0) 1 Try.underlying38 info8 rfl 64 (by decide) (by decide) (by decide) w
theorem zero_bytes (n : Nat) : ∀ x ∈ List.replicate n (0 : Int), 0 ≤ x ∧ x ≤ 255 := fun x hx => by rw [List.eq_of_mem_replicate hx]; decide
theorem set_bytes {l : List Int} (h : ∀ x ∈ l, 0 ≤ x ∧ x ≤ 255) (i : Nat) (v : Int) (hv : 0 ≤ v ∧ v ≤ 255) : ∀ x ∈ l.set i v, 0 ≤ x ∧ x ≤ 255 := fun x hx => by
  rcases List.mem_or_eq_of_mem_set hx with hx | rfl
  · exact h x hx
  · exact hv
section
variable {w0 w : World} {d : Nat} {ρ : Nat → Nat} {s : DSt}
def FlAns (w0 w : World) (d : Nat) (ρ : Nat → Nat) (E : Int) (s : DSt) (e : Ending) (w' : World) : Prop :=
  e = .returned (.int .i64 E) ∧ Chg (Own ρ) w w' ∧ ∃ ρ', DL w0 w' d ρ' s ∧ ∀ i, ρ' i ≠ 0 ↔ ρ i ≠ 0
theorem l_flush (h : DL w0 w d ρ s) : Calls Try.prog 64 #[.pointer (some ⟨d, 0, none⟩)] w (FlAns w0 w d ρ s.flE s.fl) :=
  (flush_any d ρ s w h.at_).mono fun _ _ hp => by
    obtain ⟨ρ', h1, h2, h3, h4⟩ := hp
    exact ⟨h1, h3, ρ', h.go h2 h3 (fun i hi => .inl ((h4 i).mp hi)), h4⟩
theorem l_fuse (a : Int) (ha : a ≤ 9223372036854775807) (h : DL w0 w d ρ s) :
    Calls Try.prog 16 #[.pointer (some ⟨d, 0, none⟩), .int .i64 a] w fun e w' => e = .returned (.tuple #[]) ∧ DL w0 w' d ρ (s.fusing a) ∧ Chg (Own ρ) w w' :=
  (fuse_any d ρ s a w ha h.at_).mono fun _ _ hp => ⟨hp.1, h.go hp.2.1 hp.2.2 (fun i hi => .inl hi), hp.2.2⟩
def CrAns (w0 w : World) (d : Nat) (ρ : Nat → Nat) (s : DSt) (e : Ending) (w' : World) : Prop :=
  e = .returned (.tuple #[]) ∧ Chg (Own ρ) w w' ∧ ∃ ρ', DL w0 w' d ρ' s ∧ ∀ i, ρ' i ≠ 0 ↔ ρ i ≠ 0
theorem l_crash (keep torn : Int) (k0 : 0 ≤ keep) (k1 : keep < 18446744073709551616) (h : DL w0 w d ρ s) : Calls Try.prog 15 #[.pointer (some ⟨d, 0, none⟩), .int .u64 keep, .int .i64 torn] w (CrAns w0 w d ρ (s.crash keep torn)) :=
  (crash_any d ρ s keep torn w k0 k1 h.at_).mono fun _ _ hp => by
    obtain ⟨ρ', h1, h2, h3, h4⟩ := hp
    exact ⟨h1, h3, ρ', h.go h2 h3 (fun i hi => .inl ((h4 i).mp hi)), h4⟩
theorem l_sectors (h : DL w0 w d ρ s) : Calls Try.prog 59 #[.pointer (some ⟨d, 0, none⟩)] w fun e w' => e = .returned (.int .i64 s.n) ∧ w = w' := sectors_any d ρ s w h.at_
end
end Go.Proofs.YtolojkfpokmdkaaRR.Disk

