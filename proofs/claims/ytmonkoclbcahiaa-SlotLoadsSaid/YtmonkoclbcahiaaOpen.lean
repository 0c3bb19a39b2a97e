/- Slices of slices of bytes that come in, with the elements' sizes and capacities. -/
import Derived.Test.YtmonkoclbcahiaaHpE
import Derived.SizedLaws
import Derived.ChangeSlices
namespace Go.Proofs.Ytmonkoclbcahiaa.Opn
open Go.RowKit Go.Proofs.Ytmonkoclbcahiaa.Hp Go.ChangeShapes Go.WideShapes
set_option linter.unusedVariables false
set_option linter.unusedSimpArgs false
theorem weightsAll_mem {H : Type} {P : Program} {e : TypeId} {l : List (DataW H)} {i : Nat} {d : DataW H} (hd : l[i]? = some d) (n : Nat) (hn : n ∈ d.weights P e) : n ∈ DataW.weightsAll P e l := by
  induction l generalizing i with
  | nil => cases hd
  | cons x r ih =>
    unfold DataW.weightsAll
    cases i with
    | zero => obtain rfl : x = d := by simpa using hd
              exact List.mem_append_left _ hn
    | succ i => exact List.mem_append_right _ (ih (by simpa using hd))
/-- a slice of slices of bytes that came in -/
def RowsM (w : World) (A : Option Addr) (ps : List (List Int)) : Prop :=
  ∀ j, j < ps.length → ∃ ad B c, A = some ad ∧ w.cell? (ad.add j) = some (.slice B (ps.getD j []).length c) ∧ Rd w .u8 B (ps.getD j []) ∧ (B = none → c = 0) ∧ (ps.getD j []).length ≤ c
theorem u8bo {n : Int} (h : (Lit.int .u8 n).wf = true) : 0 ≤ n ∧ n ≤ 255 := by
  simp only [Lit.wf, Bool.and_eq_true, decide_eq_true_eq] at h
  have e1 : IntKind.u8.min = 0 := rfl
  have e2 : IntKind.u8.max = 255 := rfl
  omega
def ElemAt (w : World) (a : Addr) (i : Nat) (zs : List Int) : Prop := ∃ B c, w.cell? (a.add i) = some (.slice B zs.length c) ∧ Rd w .u8 B zs ∧ (∀ x ∈ zs, 0 ≤ x ∧ x ≤ 255) ∧ (B = none → c = 0) ∧ zs.length ≤ c
theorem rows_of_elems {w : World} {a : Addr} {len : Nat} (h : ∀ i, i < len → ∃ zs, ElemAt w a i zs) : ∃ pss : List (List Int), pss.length = len ∧ RowsM w (some a) pss ∧ ∀ p ∈ pss, ∀ x ∈ p, 0 ≤ x ∧ x ≤ 255 := by
  induction len with
  | zero =>
    refine ⟨[], rfl, ?_, ?_⟩
    · intro j hj; exact absurd hj (by simp)
    · intro p hp; exact absurd hp (by simp)
  | succ n ih =>
    obtain ⟨pss, h1, h2, h3⟩ := ih (fun i hi => h i (by omega))
    obtain ⟨zs, B, c, e1, e2, e3, e4⟩ := h n (by omega)
    refine ⟨pss ++ [zs], by simp [h1], fun j hj => ?_, fun p hp => ?_⟩
    · rw [List.length_append, List.length_singleton] at hj
      by_cases cj : j < pss.length
      · have e : (pss ++ [zs]).getD j [] = pss.getD j [] := by rw [List.getD_eq_getElem?_getD, List.getD_eq_getElem?_getD, List.getElem?_append_left cj]
        rw [e]; exact h2 j cj
      · obtain rfl : j = pss.length := by omega
        have e : (pss ++ [zs]).getD pss.length [] = zs := by rw [List.getD_eq_getElem?_getD, List.getElem?_append_right (by omega)]; simp
        rw [e]
        exact ⟨a, B, c, rfl, by rw [h1]; exact e1, e2, e4⟩
    · rcases List.mem_append.mp hp with hp | hp
      · exact h3 p hp
      · rw [List.mem_singleton] at hp; subst hp; exact e3
/-- what the row gives of a slice of slices of bytes -/
theorem open_rowsM {H : Type} {enc : TypeId × Value → H} {P : Program} {W : World} {base : Nat} {spare : Nat → Bool} {held : Bool} {t e e2 : TypeId} {a : Option Addr} {len cap : Nat} {d : DataW H} {pl : List MemPlace} {ts : List TypeId} {ds : List (DataW H)} {j : Nat}
    (hsz : (DataW.weightsEach P ts ds).all (· ≤ reachBytes) = true) (ht : ts[j]? = some t) (hd : ds[j]? = some d) (hu : P.underlying t = some (.slice e)) (he : P.underlying e = some (.slice e2)) (he2 : P.underlying e2 = some (.int .u8)) (hc : P.cellsOf e = 1) (hc2 : P.cellsOf e2 = 1) (hB : P.bytesOf e = 24) (hB2 : P.bytesOf e2 = 1)
    (h : DataW.Trod enc P W base spare held t (.slice a len cap) d pl) : len ≤ 140737488351232 ∧ ∃ pss : List (List Int), pss.length = len ∧ RowsM W a pss ∧ ∀ p ∈ pss, ∀ x ∈ p, 0 ≤ x ∧ x ≤ 255 := by
  obtain ⟨fuel, hf⟩ := h
  have rb : reachBytes ≤ 140737488351232 := by decide
  rcases DataW.trod_slice hu hf with ⟨hcs, _⟩ | ⟨ad, l, c, elems, rest, n, _, hcs, hx, hb, hl, hm, hlen, hel, _, _⟩
  · simp [Value.cells] at hcs
    obtain ⟨rfl, rfl, rfl⟩ := hcs
    refine ⟨by omega, [], rfl, ?_, ?_⟩
    · intro j hj; exact absurd hj (by simp)
    · intro p hp; exact absurd hp (by simp)
  · simp [Value.cells] at hcs
    obtain ⟨rfl, rfl, rfl⟩ := hcs
    obtain ⟨hx, _⟩ := Prod.mk.inj hx
    subst hx
    have z := sized_slice hsz ht hd hu
    rw [hB, List.length_map, hlen] at z
    refine ⟨by omega, rows_of_elems fun i hi => ?_⟩
    have h1 := hel i hi
    rw [hc, Nat.mul_one, List.getElem?_eq_getElem (by omega)] at h1
    obtain ⟨cs, hcells, htr⟩ := Option.bind_eq_some_iff.mp h1
    have hmem : (elems.map (·.1))[i]? = some (elems[i]'(by omega)).1 := by rw [List.getElem?_map, List.getElem?_eq_getElem (by omega)]; rfl
    have wt : ∀ m, m ∈ (elems[i]'(by omega)).1.weights P e → m ≤ reachBytes := fun m hm => by
      have := List.all_eq_true.1 hsz _ (DataW.weights_mem_each ht hd m (by
        simp only [DataW.weights, hu]
        exact List.mem_cons_of_mem _ (List.mem_append_left _ (weightsAll_mem hmem m hm))))
      simpa using this
    obtain ⟨_, hcl, hat⟩ := World.cells?_some hcells
    rcases open_ints he he2 hc2 htr with ⟨hcs, _⟩ | ⟨b, l2, c2, zs, hcs, _, hl2, hm2, hz, hx2, hcell, hwz⟩
    · subst hcs
      have h0 := hat 0 (by omega)
      rw [show (ad.add i).add 0 = ad.add i from by unfold Addr.add; split <;> simp_all] at h0
      exact ⟨[], none, 0, h0, ⟨by simp, fun hp => absurd hp (by simp)⟩, fun x hx => absurd hx (by simp), fun _ => rfl, Nat.le_refl _⟩
    · subst hcs
      have h0 := hat 0 (by omega)
      rw [show (ad.add i).add 0 = ad.add i from by unfold Addr.add; split <;> simp_all] at h0
      have hlz : l2 ≤ zs.length := by rw [hz]; split; exact hl2; exact Nat.le_refl _
      have ht2 : (zs.take l2).length = l2 := by rw [List.length_take]; omega
      have w1 := wt ((lits (H := H) .u8 (zs.take l2)).length + (lits (H := H) .u8 (zs.drop l2)).length) (by
        rw [show (elems[i]'(by omega)).1 = .slice (lits .u8 (zs.take l2)) (lits .u8 (zs.drop l2)) from congrArg Prod.fst hx2]
        simp [DataW.weights, he, hB2])
      have hl47 : l2 ≤ 140737488351232 := by
        have : (lits (H := H) .u8 (zs.take l2)).length = l2 := by simp [lits]; omega
        omega
      refine ⟨zs.take l2, some b, c2, by rw [ht2]; exact h0, ⟨by omega, fun hp => ⟨b, rfl, fun j hj => ?_⟩⟩, fun x hx => ?_, (fun x => by cases x), by rw [ht2]; exact hl2⟩
      · rw [ht2] at hj
        rw [hcell j (by omega), List.getD_eq_getElem?_getD, List.getD_eq_getElem?_getD, List.getElem?_take, if_pos hj]
      · have := hwz x (List.mem_of_mem_take hx)
        exact u8bo this
end Go.Proofs.Ytmonkoclbcahiaa.Opn
