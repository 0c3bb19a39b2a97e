/- The log: what was read, as rows to be compared. -/
import Derived.Test.YtmonkoclbcahiaaLogL
namespace Go.Proofs.Ytmonkoclbcahiaa.Log
open Go.RowKit Go.Proofs.Ytmonkoclbcahiaa.Hp Go.Proofs.Ytmonkoclbcahiaa.By Go.Proofs.Ytmonkoclbcahiaa.Disk Go.Proofs.Ytmonkoclbcahiaa.Word Go.Proofs.Ytmonkoclbcahiaa.WordP
set_option linter.unusedVariables false
set_option linter.unusedSimpArgs false
/-- a cut at 9 of a sector, read -/
theorem cut_rd {w : World} {V : Value} {g : Nat} {l b : List Int} (h : Row w V g l) (hb : (l.drop 9).take b.length = b) (h50 : b.length ≤ 50) : Rd w .u8 (some ⟨g, 9, none⟩) b := by
  obtain ⟨hl, _, cap, C, _, _, hblk, hCs, hcell⟩ := h
  refine ⟨by omega, fun hp => ⟨_, rfl, fun j hj => ?_⟩⟩
  have e : (⟨g, 9, none⟩ : Addr).add j = ⟨g, 9 + j, none⟩ := by unfold Addr.add; split <;> simp_all
  rw [e, bcell hblk, hcell (9 + j) (by omega)]
  have hj2 : b[j]? = l[9 + j]? := by
    have h0 := congrArg (fun x => x[j]?) hb
    simp only [List.getElem?_take, List.getElem?_drop, if_pos hj] at h0
    exact h0.symm
  simp only [List.getD_eq_getElem?_getD, hj2]
theorem own_cells {w : World} {base n : Nat} {v : Value} {SVs : List Value} (h : w.ownsRow base 31 1 v n SVs) : ∃ A c, v = .slice A n c ∧ ∀ j V, SVs[j]? = some V → ∃ ad, A = some ad ∧ w.cell? (ad.add j) = some V := by
  have hlen : SVs.length = n := by have := h.1; simpa using this
  rcases h.2 with ⟨rfl, h0⟩ | ⟨g, cap, cur, rfl, _⟩
  · refine ⟨none, 0, by rw [h0], fun j V hj => ?_⟩
    rw [List.getElem?_eq_none (by omega)] at hj; cases hj
  · exact ⟨_, cap, rfl, fun j V hj => ⟨_, rfl, h.cells (g := g) rfl j V hj⟩⟩
theorem LRows.rows {w : World} {base : Nat} {v : Value} {bs : List (List Int)} (h : LRows w base v bs) : ∃ A c, v = .slice A bs.length c ∧ Rows w A bs := by
  obtain ⟨SVs, hown, hels⟩ := h
  obtain ⟨A, c, hv, hc⟩ := own_cells hown
  refine ⟨A, c, hv, fun j hj => ?_⟩
  obtain ⟨g, c', l, e1, ⟨vv, e2⟩, _, e4, e5⟩ := hels j hj
  obtain ⟨ad, e, hcell⟩ := hc j _ e1
  exact ⟨ad, _, c', e, hcell, cut_rd e2 e4 e5⟩
theorem recsF_len (f : Nat → List Int) (gen : Int) (m : Nat) : (recsF f gen m).length = m := by unfold recsF; simp
theorem RRows.rows {w wr : World} {f : Nat → List Int} {gen : Int} {v : Value} {m : Nat} (h : RRows w wr f gen v m) (hC : Chg NoB w wr) : ∃ A c, v = .slice A m c ∧ Rows wr A (recsF f gen m) := by
  obtain ⟨SVs, hown, hels⟩ := h
  obtain ⟨A, c, hv, hc⟩ := own_cells hown
  refine ⟨A, c, hv, fun j hj => ?_⟩
  rw [recsF_len] at hj
  obtain ⟨g, c', V, b, e1, e2, e3⟩ := hels j hj
  obtain ⟨ad, e, hcell⟩ := hc j _ e1
  have eb : (recsF f gen m).getD j [] = b := by
    unfold recsF
    rw [List.getD_eq_getElem?_getD, List.getElem?_map, List.getElem?_range hj]
    simp [e3]
  rw [eb]
  have h8 : 0 ≤ (f j).getD 8 0 := (e2.2.1 _ (by rw [List.getD_eq_getElem?_getD, List.getElem?_eq_getElem (by have := e2.1; omega)]; exact List.getElem_mem _)).1
  obtain ⟨h9, h50⟩ := rec_len e3 e2.1 h8
  exact ⟨ad, _, c', e, hcell, cut_rd (e2.chg hC (fun x => x)) h9 h50⟩
/-- both stop at the same record -/
theorem stop_eq {f : Nat → List Int} {gen : Int} {k m : Nat} (hk : k ≤ 64) (hm : m ≤ 64) (h1 : ∀ j, j < k → (recOf (f j) gen j).isSome = true) (h2 : k = 64 ∨ recOf (f k) gen k = none) (h3 : ∀ j, j < m → (recOf (f j) gen j).isSome = true) (h4 : m = 64 ∨ recOf (f m) gen m = none) : k = m := by
  rcases Nat.lt_trichotomy k m with h | h | h
  · rcases h2 with h2 | h2
    · omega
    · have := h3 k h; rw [h2] at this; cases this
  · exact h
  · rcases h4 with h4 | h4
    · omega
    · have := h1 m h; rw [h4] at this; cases this
theorem recs_recsF (s : DSt) (gen : Int) (m : Nat) : recs s gen m = recsF (fun j => s.get (j : Int)) gen m := rfl
/-- the records of a program, and of the reference, are the same -/
theorem same_recs {w0 w w' : World} {d : Nat} {ρ : Nat → Nat} {s : DSt} {gen : Int} {e : Ending} (h : RepPost w0 w d ρ s gen e w') (hc : Disk.Calm s) (hn : 64 ≤ s.n) : ∃ k : Nat, k ≤ 64 ∧ (∀ j : Nat, j < k → (recOf (s.get (j : Int)) gen j).isSome = true) ∧ (k = 64 ∨ recOf (s.get (k : Int)) gen k = none) ∧ RepAns w0 w d ρ s gen k e w' := by
  have h0 := h
  obtain ⟨v, E, m, rfl, hch, hm, hG, hr⟩ := h0
  have h1 : ∀ j : Nat, j < m → (recOf (s.get (j : Int)) gen j).isSome = true := fun j hj => (hG j hj).2
  rcases hr with ⟨_, _, hr⟩ | ⟨a, b, c, _⟩
  · rcases hr with ⟨rfl, _⟩ | ⟨_, _, hno, _⟩
    · exact ⟨64, hm, h1, .inl rfl, rep_calm h hc hn 64 hm h1 (.inl rfl)⟩
    · exact ⟨m, hm, h1, .inr hno, rep_calm h hc hn m hm h1 (.inr hno)⟩
  · exact absurd (by rw [b, st_calm hc]; exact calm_ioE hc (by omega) (by omega)) c
end Go.Proofs.Ytmonkoclbcahiaa.Log
