/- A slot: what is saved is loaded (plain). -/
import Derived.Test.YtmonkoclbcahiaaSlotD
namespace Go.Proofs.Ytmonkoclbcahiaa.Slot
open Go.RowKit Go.Proofs.Ytmonkoclbcahiaa.Hp Go.Proofs.Ytmonkoclbcahiaa.By Go.Proofs.Ytmonkoclbcahiaa.Disk Go.Proofs.Ytmonkoclbcahiaa.Word Go.Proofs.Ytmonkoclbcahiaa.WordP Go.Proofs.Ytmonkoclbcahiaa.Log
set_option linter.unusedVariables false
set_option linter.unusedSimpArgs false
theorem says_new : Says (DSt.new 192) (fun _ => List.replicate 64 0) := ⟨rfl, rfl, fun _ => rfl⟩
theorem says_wr {s : DSt} {f : Nat → List Int} (h : Says s f) (n : Nat) (hn : n < 192) (S : List Int) (hS : S.length = 64) : s.wrE (n : Int) 64 = 0 ∧ Says (s.wr (n : Int) S) (fun j => if j = n then S else f j) := by
  have h0 : (0 : Int) ≤ (n : Int) := by omega
  have h1 : (n : Int) < s.n := by rw [h.2.1]; omega
  refine ⟨calm_wrE h.1 h0 h1 rfl, ?_⟩
  rw [calm_wr h.1 h0 h1 hS, Int.toNat_natCast]
  refine ⟨h.1, h.2.1, fun j => ?_⟩
  show (s.put n S).get (j : Int) = if j = n then S else f j
  by_cases c : j = n
  · subst c
    rw [if_pos rfl]
    have : ((s.put j S).get ((j : Nat) : Int)) = S := by unfold DSt.get DSt.put; simp
    exact this
  · rw [if_neg c, get_put_ne n S (j : Int) (by omega)]
    exact h.2.2 j
theorem says_fl {s : DSt} {f : Nat → List Int} (h : Says s f) : s.flE = 0 ∧ Says s.fl f ∧ s.fl.looseL = [] := by
  have e : s.num.work = (s.num, 0) := work_calm _ h.1
  have e2 : s.fl = ({ s with num := s.num } : DSt).sureAll := by
    unfold DSt.fl; rw [e, if_pos rfl]
  refine ⟨by unfold DSt.flE; rw [e], ?_, ?_⟩
  · rw [e2]; exact ⟨h.1, h.2.1, fun j => by show ({ s with num := s.num } : DSt).sureAll.get (j : Int) = f j; rw [← h.2.2 j]; rfl⟩
  · rw [e2]; unfold DSt.looseL DSt.sureAll; simp
theorem says_wrN {s : DSt} {f : Nat → List Int} (h : Says s f) (a : Nat) (pg : Nat → List Int) (hp : ∀ k, (pg k).length = 64) : ∀ k, a + 1 + k ≤ 192 → (∀ j, j < k → (wrN s a pg j).wrE ((a : Int) + 1 + j) 64 = 0) ∧ Says (wrN s a pg k) (fun j => if a + 1 ≤ j ∧ j < a + 1 + k then pg (j - (a + 1)) else f j)
  | 0, _ => ⟨fun j hj => by omega, h.1, h.2.1, fun j => by
      show s.get (j : Int) = if a + 1 ≤ j ∧ j < a + 1 + 0 then pg (j - (a + 1)) else f j
      rw [if_neg (by omega)]; exact h.2.2 j⟩
  | k + 1, hk => by
    obtain ⟨h1, h2⟩ := says_wrN h a pg hp k (by omega)
    obtain ⟨h3, h4⟩ := says_wr h2 (a + 1 + k) (by omega) (pg k) (hp k)
    have e : ((a + 1 + k : Nat) : Int) = (a : Int) + 1 + k := by omega
    rw [e] at h3 h4
    refine ⟨fun j hj => ?_, h4.1, h4.2.1, fun j => ?_⟩
    · by_cases c : j < k
      · exact h1 j c
      · obtain rfl : j = k := by omega
        exact h3
    · refine (h4.2.2 j).trans ?_
      show (if j = a + 1 + k then pg k else if a + 1 ≤ j ∧ j < a + 1 + k then pg (j - (a + 1)) else f j) = if a + 1 ≤ j ∧ j < a + 1 + (k + 1) then pg (j - (a + 1)) else f j
      by_cases c : j = a + 1 + k
      · rw [if_pos c, if_pos (by omega), c]; congr 1; omega
      · rw [if_neg c]
        by_cases c2 : a + 1 ≤ j ∧ j < a + 1 + k
        · rw [if_pos c2, if_pos (by omega)]
        · rw [if_neg c2, if_neg (by omega)]
def aN (gen : Int) : Nat := (slotAt gen).toNat
theorem aN_eq (gen : Int) : slotAt gen = (aN gen : Int) := by unfold aN slotAt; omega
theorem aN_rng (gen : Int) : aN gen = 64 ∧ gen % 2 = 0 ∨ aN gen = 80 ∧ gen % 2 = 1 := by unfold aN slotAt; omega
/-- the sectors behind a Save -/
def savedF (f : Nat → List Int) (gen : Int) (l : List Int) (j : Nat) : List Int :=
  if j = aN gen then headL gen l else if aN gen + 1 ≤ j ∧ j < aN gen + 1 + pagesN l then page l (j - (aN gen + 1)) else f j
theorem pagesN_le {l : List Int} (h : l.length ≤ 960) : pagesN l ≤ 15 := by unfold pagesN; omega
theorem save_calm {s s' : DSt} {f : Nat → List Int} {gen E : Int} {l : List Int} (h : Says s f) (hl : l.length ≤ 960) (hS : Saves s gen l E s') : E = 0 ∧ Says s' (savedF f gen l) ∧ s'.looseL = [] := by
  have hp := pagesN_le hl
  have ha := aN_rng gen
  have hn : aN gen + 1 + pagesN l ≤ 192 := by omega
  obtain ⟨w1, w2⟩ := says_wrN h (aN gen) (page l) (page_len l) (pagesN l) hn
  rw [← aN_eq] at w1 w2
  obtain ⟨f1, f2, f3⟩ := says_fl w2
  rcases hS with ⟨k, hk, h1, h2, h3, _⟩ | ⟨_, hS⟩
  · exact absurd (by rw [← h2]; exact w1 k hk) h3
  · rcases hS with ⟨h1, h2, _⟩ | ⟨_, rfl, rfl⟩
    · exact absurd (by rw [← h1]; exact f1) h2
    · obtain ⟨a1, a2⟩ := says_wr f2 (aN gen) (by omega) (headL gen l) (headL_len gen l)
      rw [← aN_eq] at a1 a2
      obtain ⟨b1, b2, b3⟩ := says_fl a2
      have e1 : appE (wrN s (slotAt gen) (page l) (pagesN l)).fl (slotAt gen) (headL gen l) = 0 := by
        unfold appE; rw [headL_len, if_pos a1]; exact b1
      have e2 : appS (wrN s (slotAt gen) (page l) (pagesN l)).fl (slotAt gen) (headL gen l) = ((wrN s (slotAt gen) (page l) (pagesN l)).fl.wr (slotAt gen) (headL gen l)).fl := by
        unfold appS; rw [headL_len, if_pos a1]
      refine ⟨e1, ?_, by rw [e2]; exact b3⟩
      rw [e2]
      exact ⟨b2.1, b2.2.1, fun j => by rw [b2.2.2 j]; rfl⟩
theorem cat_get {F : Nat → List Int} {b k : Nat} (h : ∀ j, j < k → (F (b + j)).length = 64) (i : Nat) (hi : i < 64 * k) : (cat F b k)[i]? = (F (b + i / 64))[i % 64]? := by
  induction k with
  | zero => omega
  | succ k ih =>
    show (cat F b k ++ F (b + k))[i]? = _
    have hl := cat_len (f := F) (a := b) (k := k) (fun j hj => h j (by omega))
    by_cases c : i < 64 * k
    · rw [List.getElem?_append_left (by omega)]; exact ih (fun j hj => h j (by omega)) c
    · rw [List.getElem?_append_right (by omega), hl]
      have e : i / 64 = k := by omega
      rw [e]; congr 1; omega
theorem page_get (l : List Int) (k j : Nat) (hj : j < 64) (h : 64 * k + j < l.length) : (page l k)[j]? = l[64 * k + j]? := by
  unfold page
  rw [spl_get _ _ 0 j (by rw [List.length_take, List.length_replicate]; omega), if_pos ⟨by omega, by rw [List.length_take, List.length_drop]; omega⟩, List.getElem?_take, if_pos (by omega), List.getElem?_drop]
  congr 1
theorem head_at (gen : Int) (b : List Int) (j : Nat) (hj : j < 8) : (headL gen b)[j]? = if 4 ≤ j then (digs b.length 4)[j - 4]? else (digs gen 4)[j]? := by
  have d4 : ∀ v, (digs v 4).length = 4 := fun v => digs_length v 4
  have e1 : (spl (List.replicate 64 0) 0 (digs gen 4)).length = 64 := by rw [spl_length _ _ _ (by rw [d4]; simp)]; simp
  unfold headL
  rw [spl_get _ _ 8 j (by rw [d4, headH_len]; omega), if_neg (by omega)]
  unfold headH
  rw [spl_get _ _ 4 j (by rw [d4, e1]; omega), d4]
  by_cases c : 4 ≤ j
  · rw [if_pos (by omega), if_pos c]
  · rw [if_neg (by omega), if_neg c, spl_get _ _ 0 j (by rw [d4]; simp), d4, if_pos (by omega)]; congr 1
theorem head_gen (gen : Int) (b : List Int) : ((headL gen b).drop 0).take 4 = digs gen 4 :=
  take_eq _ _ 0 4 (digs_length _ _) (fun j hj => by rw [head_at gen b _ (by omega), if_neg (by omega)]; congr 1; omega)
theorem head_num (gen : Int) (b : List Int) : ((headL gen b).drop 4).take 4 = digs b.length 4 :=
  take_eq _ _ 4 4 (digs_length _ _) (fun j hj => by rw [head_at gen b _ (by omega), if_pos (by omega)]; congr 1; omega)
theorem one_congr {f f' : Nat → List Int} {w : Nat} (h : ∀ j, 64 + 16 * w ≤ j → j < 64 + 16 * w + 16 → f j = f' j) : oneOf f w = oneOf f' w := by
  have hc : ∀ k, k ≤ 15 → cat f (64 + 16 * w + 1) k = cat f' (64 + 16 * w + 1) k := by
    intro k hk
    induction k with
    | zero => rfl
    | succ k ih =>
      show cat f _ k ++ f _ = cat f' _ k ++ f' _
      rw [ih (by omega), h _ (by omega) (by omega)]
  unfold oneOf
  rw [h (64 + 16 * w) (by omega) (by omega)]
  by_cases c : 960 < leN (((f' (64 + 16 * w)).drop 4).take 4)
  · rw [if_pos c, if_pos c]
  · rw [if_neg c, if_neg c, hc _ (by omega)]
theorem one_saved (f : Nat → List Int) (gen : Int) (l : List Int) (g0 : 0 ≤ gen) (g1 : gen < 4294967296) (hl : l.length ≤ 960) (w : Nat) (hw : (w : Int) = gen % 2) : oneOf (savedF f gen l) w = some (gen, l) := by
  have ea : 64 + 16 * w = aN gen := by rcases aN_rng gen with ⟨a, b⟩ | ⟨a, b⟩ <;> omega
  have e4 : (256 : Int) ^ 4 = 4294967296 := by decide
  have eH : savedF f gen l (aN gen) = headL gen l := by unfold savedF; rw [if_pos rfl]
  have eg : leN (((headL gen l).drop 0).take 4) = gen := by rw [head_gen, leN_digs _ _ g0, e4]; omega
  have en : leN (((headL gen l).drop 4).take 4) = (l.length : Int) := by rw [head_num, leN_digs _ _ (by omega), e4]; omega
  have ec : (cat (savedF f gen l) (aN gen + 1) ((l.length + 63) / 64)).take l.length = l := by
    have hF : ∀ j, j < (l.length + 63) / 64 → savedF f gen l (aN gen + 1 + j) = page l j := fun j hj => by
      unfold savedF
      rw [if_neg (by omega), if_pos ⟨by omega, by unfold pagesN; omega⟩]
      congr 1; omega
    apply List.ext_getElem?
    intro i
    rw [List.getElem?_take]
    by_cases c : i < l.length
    · rw [if_pos c, cat_get (fun j hj => by rw [hF j hj]; exact page_len l j) i (by omega), hF _ (by omega), page_get l _ _ (by omega) (by omega)]
      congr 1; omega
    · rw [if_neg c, List.getElem?_eq_none (by omega)]
  unfold oneOf
  rw [ea, eH, eg, en, if_neg (by omega), Int.toNat_natCast, ec, if_pos ⟨hw.symm, rfl⟩]
theorem one_other (f : Nat → List Int) (gen : Int) (l : List Int) (hl : l.length ≤ 960) (w : Nat) (h2 : w < 2) (hw : (w : Int) ≠ gen % 2) : oneOf (savedF f gen l) w = oneOf f w := by
  refine one_congr fun j h1 h2 => ?_
  have hp := pagesN_le hl
  unfold savedF
  rcases aN_rng gen with ⟨a, b⟩ | ⟨a, b⟩
  · rw [if_neg (by omega), if_neg (by omega)]
  · rw [if_neg (by omega), if_neg (by omega)]
theorem one_zero (w : Nat) (h : w < 2) : oneOf (fun _ => List.replicate 64 0) w = none := by
  have h0 : oneOf (fun _ => List.replicate 64 0) 0 = none := by decide +kernel
  have h1 : oneOf (fun _ => List.replicate 64 0) 1 = none := by decide +kernel
  match w, h with
  | 0, _ => exact h0
  | 1, _ => exact h1
theorem load_zero : loadOf (fun _ => List.replicate 64 0) = (0, []) := by
  unfold loadOf; rw [one_zero 0 (by omega), one_zero 1 (by omega)]; rfl
/-- the later of two that are whole -/
theorem load_two {f : Nat → List Int} {g : Int} {b : List Int} (w : Nat) (h2 : w < 2) (g0 : 0 ≤ g) (h1 : oneOf f w = some (g, b)) (h3 : ∀ q, oneOf f (1 - w) = some q → q.1 < g) : loadOf f = (g, b) := by
  unfold loadOf
  match w, h2 with
  | 0, _ =>
    rw [h1]
    have e : pick1 (0, []) (some (g, b)) = (g, b) := by unfold pick1; exact if_pos g0
    rw [e]
    cases ho : oneOf f 1 with
    | none => rfl
    | some q => exact if_neg (by have := h3 q ho; show ¬ g ≤ q.1; omega)
  | 1, _ =>
    rw [h1]
    cases ho : oneOf f 0 with
    | none => exact if_pos g0
    | some q =>
      have hq := h3 q ho
      show (if (pick1 (0, []) (some q)).1 ≤ g then (g, b) else _) = (g, b)
      refine if_pos ?_
      unfold pick1
      by_cases c : (0 : Int) ≤ q.1
      · show (if (0 : Int) ≤ q.1 then q else _).1 ≤ g
        rw [if_pos c]; omega
      · show (if (0 : Int) ≤ q.1 then q else _).1 ≤ g
        rw [if_neg c]; exact g0
end Go.Proofs.Ytmonkoclbcahiaa.Slot
