/- Chapter 4: a disk whose power goes (plain). -/
import Derived.Test.YtfjldlhboaeemaaLogP
import Derived.Test.YtfjldlhboaeemaaLogG
namespace Go.Proofs.Ytfjldlhboaeemaa.Log
open Go.RowKit Go.Proofs.Ytfjldlhboaeemaa.Hp Go.Proofs.Ytfjldlhboaeemaa.By Go.Proofs.Ytfjldlhboaeemaa.Disk Go.Proofs.Ytfjldlhboaeemaa.Word Go.Proofs.Ytfjldlhboaeemaa.WordP
set_option linter.unusedVariables false
set_option linter.unusedSimpArgs false
/-- sectors that are sure; none is loose -/
def Firm (s : DSt) (f : Nat → List Int) : Prop := s.n = 192 ∧ (∀ j, s.sure j = f j) ∧ ∀ j, s.loose j = none
/-- sectors that are sure; one may be loose -/
def Half (s : DSt) (f : Nat → List Int) (n : Nat) (S : List Int) : Prop := s.n = 192 ∧ (∀ j, s.sure j = f j) ∧ ((∀ j, s.loose j = none) ∨ ∀ j, s.loose j = if j = n then some S else none)
theorem app_firm {s : DSt} {f : Nat → List Int} (h : Firm s f) (n : Nat) (hn : n < 192) (S : List Int) (hS : S.length = 64) :
    (appE s n S = 0 → Firm (appS s n S) (fun j => if j = n then S else f j)) ∧ (appE s n S ≠ 0 → Half (appS s n S) f n S) := by
  obtain ⟨a, b, c⟩ := h
  have hin : (0 : Int) ≤ (n : Int) ∧ (n : Int) < s.n := by omega
  have e1 : s.wrE n S.length = s.num.work.2 := by unfold DSt.wrE; rw [if_pos hS]; exact ioE_in hin.1 hin.2
  have e2 : s.io n = { s with num := s.num.work.1 } := io_in hin.1 hin.2
  have e3 : s.wr n S = if s.num.work.2 = 0 then ({ s with num := s.num.work.1 } : DSt).put n S else { s with num := s.num.work.1 } := by
    unfold DSt.wr; rw [if_pos hS, ioE_in hin.1 hin.2, e2, Int.toNat_natCast]
  unfold appE appS
  rw [e1, e3]
  by_cases c1 : s.num.work.2 = 0
  · rw [if_pos c1, if_pos c1, if_pos c1]
    unfold DSt.flE DSt.fl
    by_cases c2 : (({ s with num := s.num.work.1 } : DSt).put n S).num.work.2 = 0
    · rw [if_pos c2]
      refine ⟨fun _ => ⟨a, fun j => ?_, fun _ => rfl⟩, fun x => absurd c2 x⟩
      show (if j = n then some S else s.loose j).getD (s.sure j) = if j = n then S else f j
      by_cases cj : j = n
      · rw [if_pos cj, if_pos cj]; rfl
      · rw [if_neg cj, if_neg cj, c j]; exact b j
    · rw [if_neg c2]
      refine ⟨fun x => absurd x c2, fun _ => ⟨a, b, .inr fun j => ?_⟩⟩
      show (if j = n then some S else s.loose j) = _
      rw [c j]
  · rw [if_neg c1, if_neg c1, if_neg c1]
    exact ⟨fun x => absurd x c1, fun _ => ⟨a, b, .inl c⟩⟩
theorem firm_new (a : Int) : Firm ((DSt.new 192).fusing a) (fun _ => List.replicate 64 0) := ⟨rfl, fun _ => rfl, fun _ => rfl⟩
theorem Firm.half {s : DSt} {f : Nat → List Int} (h : Firm s f) (n : Nat) (S : List Int) : Half s f n S := ⟨h.1, h.2.1, .inl h.2.2⟩
theorem looseL_one {s : DSt} {n : Nat} (hn : n < s.n) {S : List Int} (h : ∀ j, s.loose j = if j = n then some S else none) : s.looseL = [(n : Int)] := by
  have hp : s.looseL.Perm [(n : Int)] := (List.perm_ext_iff_of_nodup (looseL_sorted s).2 (by simp)).mpr (fun k => by
    rw [looseL_mem, List.mem_singleton, h]
    constructor
    · rintro ⟨h0, h1, h2⟩
      by_cases c : k.toNat = n
      · omega
      · rw [if_neg c] at h2; cases h2
    · rintro rfl
      exact ⟨by omega, by simpa using hn, by simp⟩)
  exact List.perm_singleton.mp hp
theorem looseL_no {s : DSt} (h : ∀ j, s.loose j = none) : s.looseL = [] := by
  unfold DSt.looseL
  simp [h]
theorem crash_half {s : DSt} {f : Nat → List Int} {n : Nat} {S : List Int} (h : Half s f n S) (hn : n < 192) (hS : S.length = 64) (hf : (f n).length = 64) (keep torn : Int) :
    ∃ T, Says (s.crash keep torn) (fun j => if j = n then T else f j) ∧ (T = f n ∨ T = S ∨ (0 < torn ∧ torn < 64)) := by
  obtain ⟨a, b, c⟩ := h
  have same : (∀ j : Nat, (s.crash keep torn).get (j : Int) = f j) → ∃ T, Says (s.crash keep torn) (fun j => if j = n then T else f j) ∧ (T = f n ∨ T = S ∨ (0 < torn ∧ torn < 64)) := fun hs =>
    ⟨f n, ⟨rfl, a, fun j => by
      show _ = if j = n then f n else f j
      by_cases cj : j = n
      · rw [if_pos cj, hs j, cj]
      · rw [if_neg cj]; exact hs j⟩, .inl rfl⟩
  rcases c with c | c
  · refine same fun j => ?_
    show (if (crashAt keep s.looseL s.looseL.length).1 j then _ else if (crashAt keep s.looseL s.looseL.length).2 = some j then _ else s.sure j) = f j
    rw [looseL_no c]
    exact b j
  · have hl := looseL_one (by omega) c
    by_cases ck : keptAt keep 0 = true
    · refine ⟨S.take (cut64 torn) ++ (f n).drop (cut64 torn), ⟨rfl, a, fun j => ?_⟩, ?_⟩
      · show (if (crashAt keep s.looseL s.looseL.length).1 j then _ else if (crashAt keep s.looseL s.looseL.length).2 = some j then _ else s.sure j) = _
        rw [hl]
        have e : crashAt keep [(n : Int)] [(n : Int)].length = (fun _ => false, some n) := by
          show (if keptAt keep 0 then _ else _) = _
          rw [if_pos ck]; simp [crashAt]
        rw [e]
        by_cases cj : j = n
        · subst cj
          simp [c, b]
        · have : ¬ n = j := fun x => cj x.symm
          simp [cj, this, b]
      · by_cases t0 : 0 < torn
        · by_cases t1 : torn < 64
          · exact .inr (.inr ⟨t0, t1⟩)
          · have e : cut64 torn = 64 := by unfold cut64; omega
            rw [e, List.take_of_length_le (by omega), List.drop_of_length_le (by omega), List.append_nil]
            exact .inr (.inl rfl)
        · have e : cut64 torn = 0 := by unfold cut64; omega
          rw [e, List.take_zero, List.drop_zero, List.nil_append]
          exact .inl rfl
    · refine same fun j => ?_
      show (if (crashAt keep s.looseL s.looseL.length).1 j then _ else if (crashAt keep s.looseL s.looseL.length).2 = some j then _ else s.sure j) = f j
      rw [hl]
      have e : crashAt keep [(n : Int)] [(n : Int)].length = (fun _ => false, none) := by
        show (if keptAt keep 0 then _ else _) = _
        rw [if_neg ck]; simp [crashAt]
      rw [e]
      simp [b]
theorem wantf_len (gen : Int) (ws : List (List Int)) (h : ∀ p ∈ ws, p.length ≤ 50) (j : Nat) : (wantf gen ws j).length = 64 := by
  unfold wantf
  by_cases c : j < ws.length
  · rw [if_pos c]; exact secL_len gen j _ (h _ (by rw [List.getD_eq_getElem?_getD, List.getElem?_eq_getElem c]; exact List.getElem_mem _))
  · rw [if_neg c]; simp
/-- the records behind it -/
def KeepsTo (s : DSt) (gen : Int) (ws ws2 : List (List Int)) (torn : Int) : Prop :=
  Disk.Calm s ∧ s.n = 192 ∧ ∀ k : Nat, k ≤ 64 → (∀ j : Nat, j < k → (recOf (s.get (j : Int)) gen j).isSome = true) → (k = 64 ∨ recOf (s.get (k : Int)) gen k = none) → recs s gen k = ws ∨ recs s gen k = ws2 ∨ (0 < torn ∧ torn < 64)
theorem says_recs {s : DSt} {gen : Int} (g : 0 ≤ gen ∧ gen < 4294967296) {ws : List (List Int)} (h : Says s (wantf gen ws)) (h5 : ∀ p ∈ ws, p.length ≤ 50) (hl : ws.length ≤ 64) (k : Nat) (hk : k ≤ 64) (h1 : ∀ j : Nat, j < k → (recOf (s.get (j : Int)) gen j).isSome = true) (h2 : k = 64 ∨ recOf (s.get (k : Int)) gen k = none) : recs s gen k = ws := by
  have e : k = ws.length := stop_eq (f := fun j => s.get (j : Int)) hk hl h1 h2 (fun j hj => by show (recOf (s.get (j : Int)) gen j).isSome = true; rw [h.2.2, wantf_some gen ws h5 j hj]; rfl) (.inr (by show recOf (s.get (ws.length : Int)) gen ws.length = none; rw [h.2.2]; exact wantf_none gen g ws _ (by omega) (by omega)))
  rw [e]
  exact recs_want s gen ws h5 h.2.2
theorem keeps_half {s : DSt} {gen : Int} (g : 0 ≤ gen ∧ gen < 4294967296) {ws : List (List Int)} {p : List Int} (h : Half s (wantf gen ws) ws.length (secL gen ws.length p)) (h5 : ∀ p ∈ ws, p.length ≤ 50) (hp : p.length ≤ 50) (hl : ws.length ≤ 63) (keep torn : Int) : KeepsTo (s.crash keep torn) gen ws (ws ++ [p]) torn := by
  obtain ⟨T, hs, ht⟩ := crash_half h (by omega) (secL_len gen _ p hp) (wantf_len gen ws h5 _) keep torn
  refine ⟨hs.1, hs.2.1, fun k hk h1 h2 => ?_⟩
  rcases ht with rfl | rfl | ht
  · refine .inl (says_recs g (ws := ws) ⟨hs.1, hs.2.1, fun j => ?_⟩ h5 (by omega) k hk h1 h2)
    rw [hs.2.2 j]
    show (if j = ws.length then wantf gen ws ws.length else wantf gen ws j) = wantf gen ws j
    by_cases c : j = ws.length
    · rw [if_pos c, c]
    · rw [if_neg c]
  · refine .inr (.inl (says_recs g (ws := ws ++ [p]) ⟨hs.1, hs.2.1, fun j => ?_⟩ (fun q hq => ?_) (by simp; omega) k hk h1 h2))
    · rw [wantf_snoc]; exact hs.2.2 j
    · rcases List.mem_append.mp hq with hq | hq
      · exact h5 q hq
      · rw [List.mem_singleton] at hq; subst hq; exact hp
  · exact .inr (.inr ht)
theorem keeps_firm {s : DSt} {gen : Int} (g : 0 ≤ gen ∧ gen < 4294967296) {ws : List (List Int)} (h : Firm s (wantf gen ws)) (h5 : ∀ p ∈ ws, p.length ≤ 50) (hl : ws.length ≤ 60) (ws2 : List (List Int)) (keep torn : Int) : KeepsTo (s.crash keep torn) gen ws ws2 torn := by
  have e : ∀ j : Nat, (s.crash keep torn).get (j : Int) = wantf gen ws j := fun j => by
    show (if (crashAt keep s.looseL s.looseL.length).1 j then _ else if (crashAt keep s.looseL s.looseL.length).2 = some j then _ else s.sure j) = _
    rw [looseL_no h.2.2]
    exact h.2.1 j
  exact ⟨rfl, h.1, fun k hk h1 h2 => .inl (says_recs (s := s.crash keep torn) g ⟨rfl, h.1, e⟩ h5 (by omega) k hk h1 h2)⟩
end Go.Proofs.Ytfjldlhboaeemaa.Log
