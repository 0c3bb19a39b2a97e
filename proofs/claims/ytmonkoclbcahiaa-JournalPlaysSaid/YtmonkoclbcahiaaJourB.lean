/- A journal: Open on a disk where nothing fails; answers. -/
import Derived.Test.YtmonkoclbcahiaaJour
import Derived.Test.YtmonkoclbcahiaaLogM
import Derived.Test.YtmonkoclbcahiaaSlotF
namespace Go.Proofs.Ytmonkoclbcahiaa.Jour
open Go.RowKit Go.Proofs.Ytmonkoclbcahiaa.Hp Go.Proofs.Ytmonkoclbcahiaa.By Go.Proofs.Ytmonkoclbcahiaa.Disk Go.Proofs.Ytmonkoclbcahiaa.Word Go.Proofs.Ytmonkoclbcahiaa.WordP Go.Proofs.Ytmonkoclbcahiaa.Log Go.Proofs.Ytmonkoclbcahiaa.Slot
set_option linter.unusedVariables false
set_option linter.unusedSimpArgs false
theorem lrows_len {w : World} {base : Nat} {v : Value} {bs : List (List Int)} (h : LRows w base v bs) : ∃ A c, v = .slice A bs.length c := by
  obtain ⟨SVs, hown, _⟩ := h
  rcases hown.2 with ⟨rfl, h0⟩ | ⟨g, cap, cur, rfl, _⟩
  · exact ⟨none, 0, by rw [h0]⟩
  · exact ⟨_, _, rfl⟩
def OpenPost (w0 w : World) (d : Nat) (ρ : Nat → Nat) (s : DSt) (f : Nat → List Int) (e : Ending) (w' : World) : Prop :=
  ∃ j vb A k c, e = .returned (.tuple #[.pointer (some ⟨j, 0, none⟩), vb, .slice A k c, .int .i64 0]) ∧ JL w0 w' j d ρ s (loadOf f).1 k false ∧ Chg (Own ρ) w w' ∧ OwnB w.heap.size w' vb (loadOf f).2 ∧ LRows w' w.heap.size (.slice A k c) (recs s (loadOf f).1 k) ∧ k ≤ 64 ∧ (∀ j : Nat, j < k → (recOf (s.get (j : Int)) (loadOf f).1 j).isSome = true) ∧ (k = 64 ∨ recOf (s.get (k : Int)) (loadOf f).1 k = none) ∧ 0 ≤ (loadOf f).1 ∧ (loadOf f).1 < 4294967296
theorem lrows_base {w : World} {base base' : Nat} {v : Value} {bs : List (List Int)} (h : LRows w base' v bs) (hb : base ≤ base') : LRows w base v bs := by
  obtain ⟨SVs, hown, hels⟩ := h
  obtain ⟨h1, h2⟩ := hown
  refine ⟨SVs, ⟨h1, ?_⟩, fun j hj => ?_⟩
  · rcases h2 with h2 | ⟨g, cap, cur, e1, e2, e3⟩
    · exact .inl h2
    · exact .inr ⟨g, cap, cur, e1, by omega, e3⟩
  · obtain ⟨g, c, l, e1, e2, e3, e4⟩ := hels j hj
    exact ⟨g, c, l, e1, e2, by omega, e4⟩
set_option maxRecDepth 100000 in
set_option maxHeartbeats 1000000 in
theorem jopen_any {w0 w : World} {d : Nat} {ρ : Nat → Nat} {s : DSt} {f : Nat → List Int} (h : DL w0 w d ρ s) (hs : Says s f) :
    Calls Try.prog 21 #[.pointer (some ⟨d, 0, none⟩)] w (OpenPost w0 w d ρ s f) := by
  have hl := load_any h hs
  have hρ := own_lt_size h
  have hz := h.ch.size
  have HS := Lib.hid (And.intro hs (And.intro hρ hz))
  clear h hs hρ hz
  go_enter Try.func21, Try.ntmps21
  go_wp2_with fail
  refine hl.mono ?_
  rintro e w1 ⟨vb, rfl, hC1, h1, hv, g0, g1⟩
  have hr := replay_any (loadOf f).1 g0 g1 (by rw [HS.out.1.2.1]; decide) h1
  have H := Lib.hid (And.intro hC1 (And.intro hv (And.intro g0 g1)))
  obtain ⟨G, hG⟩ : ∃ G, G = (loadOf f).1 := ⟨_, rfl⟩
  have HG := Lib.hid hG
  rw [← hG] at hr g0 g1 ⊢
  clear hl hC1 hv h1 hG
  go_wp2_with fail
  refine hr.mono ?_
  intro e w2 hp
  obtain ⟨k, hk, q1, q2, v, rfl, hC, hL, hD⟩ := same_recs hp HS.out.1.1 (by rw [HS.out.1.2.1]; decide)
  obtain ⟨A, c, rfl⟩ := lrows_len hL
  rw [recs_len] at hL ⊢
  have fin : OpenPost w0 w d ρ s f (.returned (.tuple #[.pointer (some ⟨w2.heap.size, 0, none⟩), vb, .slice A k c, .int .i64 0])) (w2.alloc (.cells #[.pointer (some ⟨d, 0, none⟩), .int .u32 G, .int .i64 k, .bool false] 89)) := by
    have cA : Chg NoB w2 (w2.alloc (.cells #[.pointer (some ⟨d, 0, none⟩), .int .u32 G, .int .i64 k, .bool false] 89)) := (Chg.refl NoB w2).alloc _
    have cO : Chg (Own ρ) w1 (w2.alloc (.cells #[.pointer (some ⟨d, 0, none⟩), .int .u32 G, .int .i64 k, .bool false] 89)) := hC.trans cA (fun _ _ x => x.elim)
    have hlt1 : ∀ i, Own ρ i → i < w1.heap.size := fun i hi => by have := HS.out.2.1 i hi; have := H.out.1.size; omega
    have hzz : w.heap.size ≤ w1.heap.size := H.out.1.size
    have hz2 : w1.heap.size ≤ w2.heap.size := hC.size
    have hr0 : ρ w2.heap.size = 0 := by
      by_cases c : ρ w2.heap.size = 0
      · exact c
      · have := HS.out.2.1 _ c; omega
    have hGe := HG.out
    refine ⟨w2.heap.size, vb, A, k, c, rfl, ⟨hD.keep cA, ?_, hr0, by have := HS.out.2.2; omega⟩, H.out.1.trans cO (fun _ _ x => x), H.out.2.1.chg cO (fun i hi => by have := HS.out.2.1 i hi; omega), ?_, hk, ?_, ?_, H.out.2.2⟩
    · rw [← hGe]; exact bnew w2 _
    · rw [← hGe]; exact (lrows_base hL hzz).chg cA (fun _ x => x.elim)
    · rw [← hGe]; exact q1
    · rw [← hGe]; exact q2
  have F := Lib.hid fin
  clear fin hr hp hC hL hD q1 q2 H HG HS hk
  go_wp2_with fail
  (try simp only [Exit.inBlock, Exit.then])
  refine bodyPost_ret (results_tmp4 rfl _ _ _) rfl ?_
  exact F.out
end Go.Proofs.Ytmonkoclbcahiaa.Jour
