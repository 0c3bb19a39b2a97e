/- A slot where the power goes (plain). -/
import Derived.Test.YtmonkoclbcahiaaSlotE
namespace Go.Proofs.Ytmonkoclbcahiaa.Slot
open Go.RowKit Go.Proofs.Ytmonkoclbcahiaa.Hp Go.Proofs.Ytmonkoclbcahiaa.By Go.Proofs.Ytmonkoclbcahiaa.Disk Go.Proofs.Ytmonkoclbcahiaa.Word Go.Proofs.Ytmonkoclbcahiaa.WordP Go.Proofs.Ytmonkoclbcahiaa.Log
set_option linter.unusedVariables false
set_option linter.unusedSimpArgs false
/-- sectors that are sure; none is loose -/
def Firm (s : DSt) (f : Nat → List Int) : Prop := s.n = 192 ∧ (∀ j, s.sure j = f j) ∧ ∀ j, s.loose j = none
/-- sectors that are sure; one may be loose -/
def Half (s : DSt) (f : Nat → List Int) (n : Nat) (S : List Int) : Prop := s.n = 192 ∧ (∀ j, s.sure j = f j) ∧ ((∀ j, s.loose j = none) ∨ ∀ j, s.loose j = if j = n then some S else none)
theorem app_firm {s : DSt} {f : Nat → List Int} (h : Firm s f) (n : Nat) (hn : n < 192) (S : List Int) (hS : S.length = 64) :
    (appE s n S = 0 → Firm (appS s n S) (fun j => if j = n then S else f j)) ∧ (appE s n S ≠ 0 → Half (appS s n S) f n S) := by
  obtain ⟨a, b, c⟩ := h
  have hin : (0 : Int) ≤ (n : Int) ∧ (n : Int) < s.n := by omega
  have e1 : s.wrE n S.length = s.num.work.2 := by unfold DSt.wrE; rw [if_pos hS]; exact ioE_in hin.1 hin.2
  have e2 : s.io n = { s with num := s.num.work.1 } := io_in hin.1 hin.2
  have e3 : s.wr n S = if s.num.work.2 = 0 then ({ s with num := s.num.work.1 } : DSt).put n S else { s with num := s.num.work.1 } := by
    unfold DSt.wr; rw [if_pos hS, ioE_in hin.1 hin.2, e2, Int.toNat_natCast]
  unfold appE appS
  rw [e1, e3]
  by_cases c1 : s.num.work.2 = 0
  · rw [if_pos c1, if_pos c1, if_pos c1]
    unfold DSt.flE DSt.fl
    by_cases c2 : (({ s with num := s.num.work.1 } : DSt).put n S).num.work.2 = 0
    · rw [if_pos c2]
      refine ⟨fun _ => ⟨a, fun j => ?_, fun _ => rfl⟩, fun x => absurd c2 x⟩
      show (if j = n then some S else s.loose j).getD (s.sure j) = if j = n then S else f j
      by_cases cj : j = n
      · rw [if_pos cj, if_pos cj]; rfl
      · rw [if_neg cj, if_neg cj, c j]; exact b j
    · rw [if_neg c2]
      refine ⟨fun x => absurd x c2, fun _ => ⟨a, b, .inr fun j => ?_⟩⟩
      show (if j = n then some S else s.loose j) = _
      rw [c j]
  · rw [if_neg c1, if_neg c1, if_neg c1]
    exact ⟨fun x => absurd x c1, fun _ => ⟨a, b, .inl c⟩⟩
theorem Firm.half {s : DSt} {f : Nat → List Int} (h : Firm s f) (n : Nat) (S : List Int) : Half s f n S := ⟨h.1, h.2.1, .inl h.2.2⟩
theorem looseL_one {s : DSt} {n : Nat} (hn : n < s.n) {S : List Int} (h : ∀ j, s.loose j = if j = n then some S else none) : s.looseL = [(n : Int)] := by
  have hp : s.looseL.Perm [(n : Int)] := (List.perm_ext_iff_of_nodup (looseL_sorted s).2 (by simp)).mpr (fun k => by
    rw [looseL_mem, List.mem_singleton, h]
    constructor
    · rintro ⟨h0, h1, h2⟩
      by_cases c : k.toNat = n
      · omega
      · rw [if_neg c] at h2; cases h2
    · rintro rfl
      exact ⟨by omega, by simpa using hn, by simp⟩)
  exact List.perm_singleton.mp hp
theorem looseL_no {s : DSt} (h : ∀ j, s.loose j = none) : s.looseL = [] := by
  unfold DSt.looseL
  simp [h]
theorem crash_half {s : DSt} {f : Nat → List Int} {n : Nat} {S : List Int} (h : Half s f n S) (hn : n < 192) (hS : S.length = 64) (hf : (f n).length = 64) (keep torn : Int) :
    ∃ T, Says (s.crash keep torn) (fun j => if j = n then T else f j) ∧ (T = f n ∨ T = S ∨ (0 < torn ∧ torn < 64)) := by
  obtain ⟨a, b, c⟩ := h
  have same : (∀ j : Nat, (s.crash keep torn).get (j : Int) = f j) → ∃ T, Says (s.crash keep torn) (fun j => if j = n then T else f j) ∧ (T = f n ∨ T = S ∨ (0 < torn ∧ torn < 64)) := fun hs =>
    ⟨f n, ⟨rfl, a, fun j => by
      show _ = if j = n then f n else f j
      by_cases cj : j = n
      · rw [if_pos cj, hs j, cj]
      · rw [if_neg cj]; exact hs j⟩, .inl rfl⟩
  rcases c with c | c
  · refine same fun j => ?_
    show (if (crashAt keep s.looseL s.looseL.length).1 j then _ else if (crashAt keep s.looseL s.looseL.length).2 = some j then _ else s.sure j) = f j
    rw [looseL_no c]
    exact b j
  · have hl := looseL_one (by omega) c
    by_cases ck : keptAt keep 0 = true
    · refine ⟨S.take (cut64 torn) ++ (f n).drop (cut64 torn), ⟨rfl, a, fun j => ?_⟩, ?_⟩
      · show (if (crashAt keep s.looseL s.looseL.length).1 j then _ else if (crashAt keep s.looseL s.looseL.length).2 = some j then _ else s.sure j) = _
        rw [hl]
        have e : crashAt keep [(n : Int)] [(n : Int)].length = (fun _ => false, some n) := by
          show (if keptAt keep 0 then _ else _) = _
          rw [if_pos ck]; simp [crashAt]
        rw [e]
        by_cases cj : j = n
        · subst cj
          simp [c, b]
        · have : ¬ n = j := fun x => cj x.symm
          simp [cj, this, b]
      · by_cases t0 : 0 < torn
        · by_cases t1 : torn < 64
          · exact .inr (.inr ⟨t0, t1⟩)
          · have e : cut64 torn = 64 := by unfold cut64; omega
            rw [e, List.take_of_length_le (by omega), List.drop_of_length_le (by omega), List.append_nil]
            exact .inr (.inl rfl)
        · have e : cut64 torn = 0 := by unfold cut64; omega
          rw [e, List.take_zero, List.drop_zero, List.nil_append]
          exact .inl rfl
    · refine same fun j => ?_
      show (if (crashAt keep s.looseL s.looseL.length).1 j then _ else if (crashAt keep s.looseL s.looseL.length).2 = some j then _ else s.sure j) = f j
      rw [hl]
      have e : crashAt keep [(n : Int)] [(n : Int)].length = (fun _ => false, none) := by
        show (if keptAt keep 0 then _ else _) = _
        rw [if_neg ck]; simp [crashAt]
      rw [e]
      simp [b]
/-- what is not loose stays as it is sure -/
theorem crash_keep (s : DSt) (keep torn : Int) (j : Nat) (h : s.loose j = none) : (s.crash keep torn).get (j : Int) = s.sure j := by
  obtain ⟨h1, h2⟩ := crashAt_ca keep s s.looseL.length (Nat.le_refl _)
  show (if (crashAt keep s.looseL s.looseL.length).1 j then _ else if (crashAt keep s.looseL s.looseL.length).2 = some j then _ else s.sure j) = s.sure j
  by_cases c1 : (crashAt keep s.looseL s.looseL.length).1 j = true
  · have := (h1 j c1).1
    rw [h] at this; cases this
  · rw [if_neg c1]
    by_cases c2 : (crashAt keep s.looseL s.looseL.length).2 = some j
    · have := (h2 j c2).1
      rw [h] at this; cases this
    · rw [if_neg c2]
/-- pages that were written, none of them sure -/
def Pages (s : DSt) (f : Nat → List Int) (a : Nat) (pg : Nat → List Int) (k : Nat) : Prop := s.n = 192 ∧ (∀ j, s.sure j = f j) ∧ ∀ j, s.loose j = if a + 1 ≤ j ∧ j < a + 1 + k then some (pg (j - (a + 1))) else none
theorem pages_wrN {s : DSt} {f : Nat → List Int} (h : Firm s f) (a : Nat) (pg : Nat → List Int) (hp : ∀ k, (pg k).length = 64) : ∀ k, a + 1 + k ≤ 192 → (∀ j, j < k → (wrN s a pg j).wrE ((a : Int) + 1 + j) 64 = 0) → Pages (wrN s a pg k) f a pg k
  | 0, _, _ => ⟨h.1, h.2.1, fun j => by rw [if_neg (by omega)]; exact h.2.2 j⟩
  | k + 1, hk, h1 => by
    obtain ⟨p1, p2, p3⟩ := pages_wrN h a pg hp k (by omega) (fun j hj => h1 j (by omega))
    have e0 := h1 k (by omega)
    have hin : (0 : Int) ≤ (a : Int) + 1 + k ∧ (a : Int) + 1 + k < (wrN s a pg k).n := by rw [p1]; omega
    have e1 : (wrN s a pg k).ioE ((a : Int) + 1 + k) = 0 := by
      have := e0; unfold DSt.wrE at this; rwa [if_pos rfl] at this
    have e2 : wrN s a pg (k + 1) = ({ wrN s a pg k with num := (wrN s a pg k).num.work.1 } : DSt).put (a + 1 + k) (pg k) := by
      show (wrN s a pg k).wr ((a : Int) + 1 + k) (pg k) = _
      unfold DSt.wr
      rw [if_pos (hp k), if_pos e1, io_in hin.1 hin.2]
      congr 1
    rw [e2]
    refine ⟨p1, p2, fun j => ?_⟩
    show (if j = a + 1 + k then some (pg k) else (wrN s a pg k).loose j) = _
    by_cases c : j = a + 1 + k
    · rw [if_pos c, if_pos (by omega), c]; congr 2; omega
    · rw [if_neg c, p3 j]
      by_cases c2 : a + 1 ≤ j ∧ j < a + 1 + k
      · rw [if_pos c2, if_pos (by omega)]
      · rw [if_neg c2, if_neg (by omega)]
/-- behind a crash, outside the pages, all is as it was -/
theorem pages_crash {s s' : DSt} {f : Nat → List Int} {a : Nat} {pg : Nat → List Int} {k : Nat} (h : Pages s f a pg k) (hk : k ≤ 15) (hs : s'.n = s.n) (h1 : ∀ j, s'.sure j = s.sure j) (h2 : ∀ j, s'.loose j = s.loose j) (keep torn : Int) :
    Says (s'.crash keep torn) (fun j => (s'.crash keep torn).get (j : Int)) ∧ ∀ j, ¬ (a < j ∧ j ≤ a + 15) → (s'.crash keep torn).get (j : Int) = f j := by
  refine ⟨⟨rfl, hs.trans h.1, fun j => rfl⟩, fun j hj => ?_⟩
  rw [crash_keep s' keep torn j (by rw [h2, h.2.2, if_neg (by omega)]), h1, h.2.1]
def LenF (f : Nat → List Int) : Prop := ∀ j, (f j).length = 64
theorem lenF_saved {f : Nat → List Int} (h : LenF f) (gen : Int) (l : List Int) : LenF (savedF f gen l) := fun j => by
  unfold savedF
  split
  · exact headL_len _ _
  · split
    · exact page_len _ _
    · exact h j
def CutTo (f : Nat → List Int) (gen : Int) (l : List Int) (torn : Int) (f' : Nat → List Int) : Prop :=
  (∀ j, ¬ (aN gen < j ∧ j ≤ aN gen + 15) → f' j = f j) ∨ (∀ j, f' j = savedF f gen l j) ∨ ((0 < torn ∧ torn < 64) ∧ ∀ j, ¬ (aN gen ≤ j ∧ j ≤ aN gen + 15) → f' j = f j)
theorem saves_firm {s s' : DSt} {f : Nat → List Int} {gen E : Int} {l : List Int} (h : Firm s f) (hf : LenF f) (hl : l.length ≤ 960) (hS : Saves s gen l E s') :
    (E = 0 → Firm s' (savedF f gen l)) ∧ (E ≠ 0 → ∀ keep torn, ∃ f', Says (s'.crash keep torn) f' ∧ CutTo f gen l torn f') := by
  have hp := pagesN_le hl
  have ha := aN_rng gen
  have pw : ∀ k, k ≤ pagesN l → (∀ j, j < k → (wrN s (slotAt gen) (page l) j).wrE (slotAt gen + 1 + j) 64 = 0) → Pages (wrN s (slotAt gen) (page l) k) f (aN gen) (page l) k := fun k hk h1 => by
    have := pages_wrN h (aN gen) (page l) (page_len l) k (by omega)
    rw [← aN_eq] at this
    exact this h1
  rcases hS with ⟨k, hk, h1, h2, h3, rfl⟩ | ⟨h1, hS⟩
  · refine ⟨fun x => absurd x h3, fun _ keep torn => ?_⟩
    have pk := pw k (by omega) h1
    have hin : (0 : Int) ≤ slotAt gen + 1 + k ∧ slotAt gen + 1 + k < (wrN s (slotAt gen) (page l) k).n := by rw [pk.1, aN_eq]; omega
    have e2 : wrN s (slotAt gen) (page l) (k + 1) = { wrN s (slotAt gen) (page l) k with num := (wrN s (slotAt gen) (page l) k).num.work.1 } := by
      show (wrN s (slotAt gen) (page l) k).wr (slotAt gen + 1 + k) (page l k) = _
      have e1 : ¬ (wrN s (slotAt gen) (page l) k).ioE (slotAt gen + 1 + k) = 0 := fun x => h3 (by rw [← h2]; unfold DSt.wrE; rw [if_pos rfl]; exact x)
      unfold DSt.wr
      rw [if_pos (page_len l k), if_neg e1, io_in hin.1 hin.2]
    obtain ⟨c1, c2⟩ := pages_crash (s' := wrN s (slotAt gen) (page l) (k + 1)) pk (by omega) (by rw [e2]) (fun j => by rw [e2]) (fun j => by rw [e2]) keep torn
    exact ⟨_, c1, .inl c2⟩
  · have pk := pw (pagesN l) (Nat.le_refl _) h1
    generalize wrN s (slotAt gen) (page l) (pagesN l) = s1 at *
    rcases hS with ⟨h2, h3, rfl⟩ | ⟨h2, rfl, rfl⟩
    · refine ⟨fun x => absurd x h3, fun _ keep torn => ?_⟩
      have e2 : s1.fl = { s1 with num := s1.num.work.1 } := by
        unfold DSt.fl; rw [if_neg (fun x => h3 (by rw [← h2]; exact x))]
      obtain ⟨c1, c2⟩ := pages_crash (s' := s1.fl) pk (by omega) (by rw [e2]) (fun j => by rw [e2]) (fun j => by rw [e2]) keep torn
      exact ⟨_, c1, .inl c2⟩
    · have e2 : s1.fl = ({ s1 with num := s1.num.work.1 } : DSt).sureAll := by
        unfold DSt.fl; rw [if_pos (show s1.num.work.2 = 0 from h2)]
      have hfp : Firm s1.fl (fun j => if aN gen + 1 ≤ j ∧ j < aN gen + 1 + pagesN l then page l (j - (aN gen + 1)) else f j) := by
        rw [e2]
        refine ⟨pk.1, fun j => ?_, fun j => rfl⟩
        show (s1.loose j).getD (s1.sure j) = _
        rw [pk.2.2 j, pk.2.1 j]
        by_cases c : aN gen + 1 ≤ j ∧ j < aN gen + 1 + pagesN l
        · rw [if_pos c]; exact (if_pos c).symm
        · rw [if_neg c]; exact (if_neg c).symm
      have af := app_firm hfp (aN gen) (by omega) (headL gen l) (headL_len gen l)
      rw [← aN_eq] at af
      refine ⟨fun x => ?_, fun x keep torn => ?_⟩
      · exact af.1 x
      · obtain ⟨T, hs, ht⟩ := crash_half (af.2 x) (by omega) (headL_len gen l) (by rw [if_neg (by omega)]; exact hf _) keep torn
        refine ⟨_, hs, ?_⟩
        rcases ht with rfl | rfl | ht
        · refine .inl fun j hj => ?_
          show (if j = aN gen then _ else if aN gen + 1 ≤ j ∧ j < aN gen + 1 + pagesN l then _ else f j) = f j
          by_cases c : j = aN gen
          · rw [if_pos c, if_neg (by omega), c]
          · rw [if_neg c, if_neg (by omega)]
        · exact .inr (.inl fun j => rfl)
        · refine .inr (.inr ⟨ht, fun j hj => ?_⟩)
          show (if j = aN gen then _ else if aN gen + 1 ≤ j ∧ j < aN gen + 1 + pagesN l then _ else f j) = f j
          rw [if_neg (by omega), if_neg (by omega)]
/-- what the two slots hold: the last one that was saved, and the one before -/
def Inv (f : Nat → List Int) (gen : Int) (now : List Int) : Prop :=
  LenF f ∧ 0 ≤ gen ∧ (gen = 0 → now = [] ∧ ∀ j, f j = List.replicate 64 0) ∧ (0 < gen → ∀ w : Nat, w < 2 → (w : Int) = gen % 2 → oneOf f w = some (gen, now) ∧ (f (64 + 16 * (1 - w)) = List.replicate 64 0 ∨ ∃ b, f (64 + 16 * (1 - w)) = headL (gen - 1) b))
theorem inv_new : Inv (fun _ => List.replicate 64 0) 0 [] := ⟨fun _ => by simp, Int.le_refl _, fun _ => ⟨rfl, fun _ => rfl⟩, fun h => by omega⟩
theorem one_head {f : Nat → List Int} {w : Nat} {q : Int × List Int} (h : oneOf f w = some q) : f (64 + 16 * w) = headL q.1 q.2 := by
  unfold oneOf at h
  split at h
  · cases h
  · split at h
    · rename_i c
      obtain rfl := Option.some.inj h
      exact c.2.symm
    · cases h
theorem one_gen {f : Nat → List Int} {w : Nat} {g : Int} {b : List Int} {q : Int × List Int} (g0 : 0 ≤ g) (g1 : g < 4294967296) (hf : f (64 + 16 * w) = headL g b) (h : oneOf f w = some q) : q.1 = g := by
  have e4 : (256 : Int) ^ 4 = 4294967296 := by decide
  have eg : leN (((headL g b).drop 0).take 4) = g := by rw [head_gen, leN_digs _ _ g0, e4]; omega
  unfold oneOf at h
  rw [hf] at h
  split at h
  · cases h
  · split at h
    · obtain rfl := Option.some.inj h
      exact eg
    · cases h
theorem one_zeros {f : Nat → List Int} {w : Nat} (hw : w < 2) (hf : f (64 + 16 * w) = List.replicate 64 0) : oneOf f w = none := by
  have e0 : leN (((List.replicate 64 (0 : Int)).drop 4).take 4) = 0 := by decide
  have z := one_zero w hw
  unfold oneOf at z ⊢
  rw [hf]
  rw [e0] at z ⊢
  exact z
theorem inv_next {f : Nat → List Int} {gen : Int} {now l : List Int} (h : Inv f gen now) (g1 : gen + 1 < 4294967296) (hl : l.length ≤ 960) : Inv (savedF f (gen + 1) l) (gen + 1) l := by
  obtain ⟨h1, h2, h3, h4⟩ := h
  refine ⟨lenF_saved h1 _ _, by omega, fun x => by omega, fun _ w hw2 hw => ⟨one_saved f (gen + 1) l (by omega) g1 hl w hw, ?_⟩⟩
  have hp := pagesN_le hl
  have e : savedF f (gen + 1) l (64 + 16 * (1 - w)) = f (64 + 16 * (1 - w)) := by
    unfold savedF
    rcases aN_rng (gen + 1) with ⟨a, b⟩ | ⟨a, b⟩
    · rw [if_neg (by omega), if_neg (by omega)]
    · rw [if_neg (by omega), if_neg (by omega)]
  rw [e]
  by_cases c : gen = 0
  · exact .inl ((h3 c).2 _)
  · obtain ⟨o1, _⟩ := h4 (by omega) (1 - w) (by omega) (by omega)
    refine .inr ⟨now, ?_⟩
    have := one_head o1
    rw [this]
    show headL gen now = headL (gen + 1 - 1) now
    congr 1; omega
theorem inv_load {f : Nat → List Int} {gen : Int} {now : List Int} (h : Inv f gen now) (g1 : gen < 4294967296) : loadOf f = (gen, now) := by
  obtain ⟨h1, h2, h3, h4⟩ := h
  by_cases c : gen = 0
  · obtain ⟨rfl, hz⟩ := h3 c
    subst c
    have : f = fun _ => List.replicate 64 0 := funext hz
    rw [this]; exact load_zero
  · obtain ⟨w, hw2, hw⟩ : ∃ w : Nat, w < 2 ∧ (w : Int) = gen % 2 := ⟨(gen % 2).toNat, by omega, by omega⟩
    obtain ⟨o1, o2⟩ := h4 (by omega) w hw2 hw
    refine load_two w hw2 h2 o1 fun q hq => ?_
    rcases o2 with o2 | ⟨b, o2⟩
    · rw [one_zeros (by omega) o2] at hq; cases hq
    · have := one_gen (by omega) (by omega) o2 hq
      omega
/-- behind a cut there is what was there, or what was being saved -/
theorem inv_cut {f f' : Nat → List Int} {gen torn : Int} {now l : List Int} (h : Inv f gen now) (g1 : gen + 1 < 4294967296) (hl : l.length ≤ 960) (hc : CutTo f (gen + 1) l torn f') : loadOf f' = (gen, now) ∨ loadOf f' = (gen + 1, l) ∨ (0 < torn ∧ torn < 64) := by
  rcases hc with hc | hc | hc
  · left
    obtain ⟨h1, h2, h3, h4⟩ := h
    obtain ⟨w, hw2, hw⟩ : ∃ w : Nat, w < 2 ∧ (w : Int) = gen % 2 := ⟨(gen % 2).toNat, by omega, by omega⟩
    have out : ∀ j, 64 + 16 * w ≤ j → j < 64 + 16 * w + 16 → f' j = f j := fun j j1 j2 => hc j (by rcases aN_rng (gen + 1) with ⟨a, b⟩ | ⟨a, b⟩ <;> omega)
    have hd : f' (64 + 16 * (1 - w)) = f (64 + 16 * (1 - w)) := hc _ (by rcases aN_rng (gen + 1) with ⟨a, b⟩ | ⟨a, b⟩ <;> omega)
    have e1 := one_congr out
    by_cases c : gen = 0
    · obtain ⟨rfl, hz⟩ := h3 c
      subst c
      have ha : oneOf f' w = none := by rw [e1]; exact one_zeros hw2 (hz _)
      have hb : oneOf f' (1 - w) = none := one_zeros (by omega) (by rw [hd]; exact hz _)
      have hw0 : w = 0 := by omega
      subst hw0
      unfold loadOf
      rw [ha, show oneOf f' 1 = none from hb]; rfl
    · obtain ⟨o1, o2⟩ := h4 (by omega) w hw2 hw
      refine load_two w hw2 h2 (by rw [e1]; exact o1) fun q hq => ?_
      rcases o2 with o2 | ⟨b, o2⟩
      · rw [one_zeros (by omega) (by rw [hd]; exact o2)] at hq; cases hq
      · have := one_gen (g := gen - 1) (b := b) (by omega) (by omega) (by rw [hd]; exact o2) hq
        omega
  · right; left
    have e : f' = savedF f (gen + 1) l := funext hc
    rw [e]
    exact inv_load (inv_next h g1 hl) g1
  · exact .inr (.inr hc.1)
theorem crash_firm {s : DSt} {f : Nat → List Int} (h : Firm s f) (keep torn : Int) : Says (s.crash keep torn) f := ⟨rfl, h.1, fun j => by rw [crash_keep s keep torn j (h.2.2 j)]; exact h.2.1 j⟩
theorem firm_new (a b c : Int) : Firm (((DSt.new 192).failing a b).fusing c) (fun _ => List.replicate 64 0) := ⟨rfl, fun _ => rfl, fun _ => rfl⟩
end Go.Proofs.Ytmonkoclbcahiaa.Slot
